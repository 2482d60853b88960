/- NodeStores, wherever what it reads is of bulk at most 1048576: proved over a checked abstract run of the translated code; no condition but that. A part. -/
import Derived.Test.YtcdejnpngkeknaaGreatDoorChecked
import Derived.Lib.LaidU8
import Derived.Lib.OthersKept
import Derived.Laws.RangeAny
import Derived.WalkKit
import Derived.BigCall
import Derived.Test.YtcdejnpngkeknaaGreatDoorG2
set_option linter.unusedSimpArgs false
set_option linter.unusedVariables false
set_option linter.constructorNameAsVariable false
set_option linter.defProp false
set_option maxRecDepth 100000
set_option maxHeartbeats 16000000
namespace Sg
abbrev PgT:=Nat->Option Fn
@[simp] def HpZ (n:Nat) (f:F):PgT->Prop:=fun p=>p n=some (.code f)
@[simp] def HpQ (n:Nat) (f:F) (k:Nat):PgT->Prop:=fun p=>p n=some (.codeR f k)
@[simp] def HpC (n:Nat) (f:F) (r:PgT->Prop):PgT->Prop:=fun p=>p n=some (.code f)/\r p
@[simp] def HpR (n:Nat) (f:F) (k:Nat) (r:PgT->Prop):PgT->Prop:=fun p=>p n=some (.codeR f k)/\r p
@[simp] def HpA (a b:PgT->Prop):PgT->Prop:=fun p=>a p/\b p
theorem inc64q {i:Nat} (h:i<9223372036854775807):_root_.Go.IntKind.i64.wrap ((i:Int)+1)=((i+1:Nat):Int):=by rw[bI (by omega) (by omega)];omega
end Sg
namespace Sg
def look {α:Type}:List (Nat×α)->Nat->Option α
 |[],_=>none
 |(k,a)::l,n=>if k=n then some a else look l n
def zX:Option Nat->Bool
 |some j=>decide (j<3000)
 |none=>true
def zY (F:F) (j:Nat):Bool:=F.own.isNone&&g6 j F.body&&decide (j<1000)
def cZ (P:Go.Program) (cx:Cx) (p:List (Nat×Fn)):List (Nat×Fn)->Bool
 |[]=>true
 |(k,.code F)::l=>fQ P cx (look p) (cx.fm k) F&&cZ P cx p l
 |(k,.codeR F j)::l=>fQ P cx (look p) (cx.fm k) F&&zY F j&&cZ P cx p l
 |(_,.prim o _)::l=>zX o&&cZ P cx p l
theorem dq {α:Type}:∀{l:List (Nat×α)} {n:Nat} {a:α},look l n=some a->(n,a)∈l
 |(k,b)::l,n,a,h=>by
  simp only[look] at h;split at h
  ·rename_i e;subst e;simp only[Ga] at h;subst h;exact ni
  ·exact nh _ (dq h)
 |[],n,a,h=>by simp[look] at h
def tY (P:Go.Program) (cx:Cx) (tab:List (Nat×Fn)) (k:Nat):Fn->Prop
 |.code F=>fQ P cx (look tab) (cx.fm k) F=true
 |.codeR F j=>fQ P cx (look tab) (cx.fm k) F=true/\zY F j=true
 |.prim o _=>zX o=true
theorem vm {P:Go.Program} {cx:Cx} {j:List (Nat×Fn)}:∀{l:List (Nat×Fn)},cZ P cx j l=true->∀k f,(k,f)∈l->tY P cx j k f
 |(k',g)::l,h,k,f,hm=>by
  have o:tY P cx j k' g/\cZ P cx j l=true:=by
   cases g<;>simp only[cZ,Gg] at h
   ·exact h
   ·exact h
   ·exact⟨h.1,h.2⟩
  simp only[GN,Gi] at hm;rcases hm with ⟨rfl,rfl⟩|hm
  ·exact o.1
  ·exact vm o.2 k f hm
 |[],h,k,f,hm=>by simp at hm
def jo {P:Go.Program} {cx:Cx} {j:List (Nat×Fn)} (hm:P.follows .mixedOrders=true) (o:cZ P cx j j=true)
  (q:∀f own p,look j f=some (.prim own p)->∀args r,p args=some r->gi P cx own f args r)
  (y:∀f z p,z<1000->look j f=some (.prim (some (1000+z)) p)->∃E el,gK P (cx.fm f) z E el) (u:∀f z p,look j f=some (.prim (some (2000+z)) p)->kV P (cx.fm f) z)
  (n f:Nat) (args:List V) (r:V) (h:Jn (look j) n f args=some r):gi P cx (aL (look j) f) f args r:=
 (J2 hm (fun f F w=>vm o f _ (dq w)) q y u (fun f F k w=>by
  have h1:tY P cx j f (.codeR F k):=vm o f _ (dq w);have B:=h1.2;simp only[zY,Gg,pk] at B;exact⟨h1.1,B.1.1,B.1.2⟩) (fun f own p w k H D=>by
  have h1:tY P cx j f (.prim own p):=vm o f _ (dq w);subst D;simp only[tY,zX,Gn] at h1;omega) n f args r h).1
end Sg
namespace Sg
open _root_.Go (IntKind BinOp UnOp)
@[go_sem] abbrev z_0 : List V := [.str [],.str [],.int .i64 0,.int .i64 0,.int .i64 0]
@[go_sem] abbrev z_1 : List V := [.int .i64 0,.int .i64 0,.int .i64 0,.bool false,.str []]
@[go_sem] abbrev z_2 : List V := [.int .i64 0,.int .i64 0,.int .i64 0,.int .i64 0,.int .i64 0,.int .i64 0,.bool false,.str [],.slice 2 [],.str [],.bool false]
@[go_sem] abbrev z_3 : List V := [.int .i64 0,.int .i64 0,.slice 1 [],.int .i64 0,.str [],.str [],.slice 1 []]
@[go_sem] abbrev z_4 : List V := [.int .i64 0,.int .i64 0,.int .i64 0,.int .i64 0,.int .i64 0,.slice 1 [],.str []]
@[go_sem] abbrev z_5 : List V := [.str [],.slice 5 []]
@[go_sem] abbrev z_6 : List V := [.slice 17 [],.int .i64 0,.int .i64 0,.int .i64 0,.int .i64 0]
@[go_sem] abbrev z_7 : List V := [.int .i64 0,.int .i64 0,.int .i64 0,.int .i64 0,.bool false,.str [],.slice 2 [],.str [],.bool false]
@[go_sem] abbrev z_8 : List V := [.int .i64 0,.int .i64 0,.str [],.str [],.int .i64 0,.slice 2 [],.int .i64 0,.int .i64 0,.int .i64 0,.int .i64 0,.int .i64 0,.int .i64 0,.slice 11 [],.int .i64 0,.int .i64 0,.int .i64 0,.int .i64 0]
@[go_sem] abbrev z_9 : List V := [.int .i64 0,.int .i64 0,.int .i64 0,.slice 1 [],.int .i64 0,.str [],.str [],.slice 1 [],.slice 36 []]
@[go_sem] abbrev z_10 : List V := [.int .i64 0,.slice 9 []]
@[go_sem] abbrev z_11 : List V := [.int .i64 0,.nslice 9]
@[go_sem] abbrev z_12 : List V := [.int .i64 0,.int .i64 0,.int .i64 0]
@[go_sem] abbrev z_13 : List V := [.str [],.bool false]
@[go_sem] abbrev z_14 : List V := [.nslice 17,.int .i64 0,.int .i64 0,.int .i64 0,.int .i64 0]
@[go_sem] abbrev z_15 : List V := [.int .i64 0,.int .i64 0,.int .i64 0,.int .i64 0,.int .i64 0,.int .i64 0,.int .i64 0,.int .i64 0,.int .i64 0,.int .i64 0,.int .i64 0,.int .i64 0,.str [],.int .i64 0,.int .i64 0,.int .i64 0,.str [],.str [],.bool false,.str [],.int .i64 0,.int .i64 0,.int .i64 0,.str [],.int .i64 0,.int .i64 0,.int .i64 0,.int .i64 0,.int .i64 0,.bool false,.str [],.slice 2 [],.str [],.bool false,.slice 5 [],.slice 1 []]
@[go_sem] abbrev z_16 : List V := [.str [],.nslice 5]
@[go_sem] abbrev z_17 : List V := [.int .i64 0,.int .i64 0,.str [],.str [],.int .i64 0,.nslice 2,.int .i64 0,.int .i64 0,.int .i64 0,.int .i64 0,.int .i64 0,.int .i64 0,.nslice 11,.int .i64 0,.int .i64 0,.int .i64 0,.int .i64 0]
@[go_sem] abbrev z_18 : List V := [.int .i64 0,.int .i64 0,.int .i64 0,.str [],.str [],.bool false,.str [],.int .i64 0,.int .i64 0,.int .i64 0,.str [],.int .i64 0]
@[go_sem] abbrev z_19 : List V := [.int .i64 0,.str [],.str [],.int .i64 0,.bool false,.bool false,.int .i64 0,.slice 9 [],.slice 5 [],.slice 3 [],.int .i64 0,.slice 5 [],.slice 3 [],.int .i64 0,.int .i64 0,.int .i64 0,.int .i64 0,.int .i64 0,.int .i64 0,.int .i64 0,.int .i64 0,.int .i64 0,.int .i64 0,.int .i64 0,.str [],.slice 1 [],.int .i64 0,.int .i64 0,.int .i64 0,.str [],.str [],.slice 1 [],.int .i64 0,.int .i64 0,.int .i64 0,.slice 1 [],.slice 7 [],.bool false]
@[go_sem] abbrev z_20 : List V := [.str [],.str [],.int .i64 0,.bool false,.bool false]
@[go_sem] abbrev z_21 : List V := [.slice 5 [],.slice 3 [],.int .i64 0,.slice 5 [],.slice 3 [],.int .i64 0,.int .i64 0,.int .i64 0,.int .i64 0,.int .i64 0,.int .i64 0,.int .i64 0,.int .i64 0,.int .i64 0,.int .i64 0,.int .i64 0,.str [],.slice 1 [],.int .i64 0,.int .i64 0,.int .i64 0,.str [],.str [],.slice 1 [],.int .i64 0,.int .i64 0,.int .i64 0,.slice 1 [],.slice 7 []]
@[go_sem] abbrev z_22 : List V := [.str [],.str []]
@[go_sem] abbrev z_23 : List V := [.int .i64 0,.int .i64 0,.int .i64 0,.slice 1 [],.int .i64 0,.str [],.str [],.slice 1 [],.nslice 36]
@[go_sem] abbrev z_24 : List V := [.int .i64 0,.int .i64 0,.int .i64 0,.int .i64 0,.int .i64 0,.int .i64 0,.int .i64 0,.int .i64 0,.int .i64 0,.int .i64 0,.int .i64 0,.int .i64 0,.str [],.int .i64 0,.int .i64 0,.int .i64 0,.str [],.str [],.bool false,.str [],.int .i64 0,.int .i64 0,.int .i64 0,.str [],.int .i64 0,.int .i64 0,.int .i64 0,.int .i64 0,.int .i64 0,.bool false,.str [],.slice 2 [],.str [],.bool false,.nslice 5,.nslice 1]
@[go_sem] abbrev z_25 : List V := [.int .i64 0,.int .i64 0,.int .i64 0,.int .i64 0,.bool false,.str [],.nslice 2,.str [],.bool false]
def c142 : C := rs 0 (qB 2 0^qF 4^qe) <| rs 5 (qb 2 2^qc 167^ya^qm 1^qc 168^za 2^ya^qm 1^qr 2 0^qr 2 1^qC 169 (ls [7,9,11])^za 6^qv 4^qe) .ret
def F142 : F := mF 2 [.t 4] none c142
def l149_0 : C := .loop [] [] [] [] (lq 13 (qm 6^qm 0^qh false^qQ .lss 0^qe) 16 0 <| sq (bk 1 (rs 19 (qm 0^qm 6^qi 5^qg 0^qJ 2^qm 1^q3 (.call (.k 142) .no none [.l 4,.l 5])^qe) <| cd 25 (rs 26 (qm 0^qm 6^qi 5^qJ 5^qt 4 5 3^qT 5^qe) .ret) .skip)) <| r1 17 (qm 6^qk .add 1^qv 6^qe))
def c149 : C := rs 0 (qG 4 z_0^qF 5^qe) <| i1 7 (qm 1^qh true^qK .eql 0^qe) 9 (rs 10 (qm 0^q1 (.iad 5 (.l 0) (ci 0))^qJ 5^qt 4 5 2^qT 5^qe) .ret) <| sq (rs 0 (qz 6 0^qe) <| bk 0 l149_0) <| rs 30 (q1 (.build z_0 [])^qt 4 5 0^qF 5^qe) .ret
def F149 : F := mF 2 [.cell 4 (some 5),.t 5] none c149
def l153_0 : C := .loop [] [] [] [] (lq 11 (qm 5^qm 0^qh false^qQ .lss 0^qe) 14 0 <| sq (bk 1 (rt 17 (qm 0^qm 5^qi 5^qJ 5^qm 1^qm 5^qi 5^qJ 5^q3 (.eqa true [.s,.s,.i,.i,.i] (.l 3) (.l 7))^qe) <| cd 25 (rs 0 (qF 4^qe) .ret) .skip)) <| r1 15 (qm 5^qk .add 1^qv 5^qe))
def c153 : C := rs 0 (qF 4^qe) <| i1 6 (qm 0^qh false^qm 1^qh false^qQ .neq 1^qe) 10 (rs 0 (qF 4^qe) .ret) <| sq (rs 0 (qz 5 0^qe) <| bk 0 l153_0) <| rs 0 (qT 4^qe) .ret
def F153 : F := mF 2 [.t 4] none c153
def c167 : C := rs 0 (qB 1 0^qF 2^qe) <| i1 3 (qr 1 0^qh true^qk .gtr 0^ya^qr 1 0^qc 168^qn^zA 4^qe) 12 (rs 0 (qF 2^qe) .ret) <| i1 13 (qr 1 1^qh true^qK .eql 0^qe) 16 (rs 0 (qT 2^qe) .ret) <| rs 17 (qr 1 1^qc 168^ya^qr 1 0^qr 1 1^qC 187 (ls [5,7])^qk .eql (-1)^za 3^qv 2^qe) .ret
def F167 : F := mF 1 [.t 2] none c167
def l168_0 : C := .loop [] [] [] [] (lq 13 (qm 0^qh true^qK .gtr 0^qe) 15 0 <| bk 1 (rs 17 (qm 0^qc 188^q2 16 (.mov (.l 1))^qx 0^qy 1^qw 3^qw 4^qe) <| i1 21 (qm 3^qc 189^qN^qe) 23 (rs 0 (qF 2^qe) .ret) <| r1 24 (qm 0^qm 4^q1 (.sl true 0 (.l 0) (some (.l 1)) none)^qv 0^qe)))
def c168 : C := rs 0 (qF 2^qe) <| i1 5 (qm 0^qh true^qk .eql 0^yo^qm 0^qh true^qk .gtr 16^zO 3^qe) 12 (rs 0 (qF 2^qe) .ret) <| sq (bk 0 l168_0) <| rs 0 (qT 2^qe) .ret
def F168 : F := mF 1 [.t 2] none c168
def c169 : C := rs 0 (qF 6^qe) <| rs 7 (qm 0^qm 1^qd 187^qk .geq 0^ya^qm 2^qh true^qk .eql 0^yo^qm 0^qm 2^qd 187^qk .lss 0^y1 4^qo 8^za 4^qv 6^qe) .ret
def F169 : F := mF 3 [.t 6] none c169
def c171 : C := rs 0 (qB 2 0^qF 4^qe) <| rs 5 (qb 2 2^qc 186^ya^qm 1^qc 170^za 2^ya^qr 2 0^qm 1^qd 192^qk .leq 0^za 6^ya^qr 2 1^q1 (.bin .eql (.l 15) (.c (.str [])))^yo^qm 1^qr 2 1^qC 192 (ls [18,20])^qk .lss 0^y1 13^qo 17^za 13^qv 4^qe) .ret
def F171 : F := mF 2 [.t 4] none c171
def c186 : C := rs 0 (qB 1 0^qF 2^qe) <| i1 3 (qr 1 0^q1 (.bin .neq (.l 1) (.c (.str [])))^ya^qr 1 0^qc 170^qn^zA 3^qe) 11 (rs 0 (qF 2^qe) .ret) <| rs 12 (qr 1 1^q1 (.bin .eql (.l 1) (.c (.str [])))^yo^qr 1 1^qc 170^ya^qr 1 0^qr 1 1^qC 192 (ls [9,11])^qk .lss 0^y0 3^qa 7^zo 3^qv 2^qe) .ret
def F186 : F := mF 1 [.t 2] none c186
def l187_0 : C := .loop [] [] [] [] (lq 12 (qm 7^qm 5^qh false^qq .lss 0^ya^qm 7^qm 6^qh false^qq .lss 5^zA 4^qe) 21 0 <| sq (bk 1 (i2 24 (qm 5^qm 7^qi 1^qj^qm 6^qm 7^qi 1^qj^qQ .lss 3^qe) 32 (rs 0 (qz 4 (-1)^qe) .ret) <| rt 33 (qm 5^qm 7^qi 1^qj^qm 6^qm 7^qi 1^qj^qQ .gtr 3^qe) <| cd 41 (rs 0 (qz 4 1^qe) .ret) .skip)) <| r1 22 (qm 7^qk .add 1^qv 7^qe))
def c187 : C := rs 0 (qz 4 0^qe) <| rs 8 (qm 0^qc 195^qm 1^qc 195^qV 5 1^qw 6^qe) <| sq (rs 0 (qz 7 0^qe) <| bk 0 l187_0) <| i1 42 (qm 5^qh false^qm 6^qh false^qQ .lss 1^qe) 46 (rs 0 (qz 4 (-1)^qe) .ret) <| i1 47 (qm 5^qh false^qm 6^qh false^qQ .gtr 1^qe) 51 (rs 0 (qz 4 1^qe) .ret) <| rs 0 (qz 4 0^qe) .ret
def F187 : F := mF 2 [.t 4] none c187
def l188_0 : C := .loop [] [] [] [] (lq 46 (qm 7^qm 5^qQ .lss 0^qe) 48 0 <| sq (bk 1 (i1 51 (qm 0^qm 7^q1 (.idx (.l 0) (.l 1))^q1 (.bin .lss (.l 2) (.c (.int .u8 128)))^yo^qm 0^qm 7^q1 (.idx (.l 5) (.l 6))^q1 (.bin .gtr (.l 7) (.c (.int .u8 191)))^zO 4^qe) 60 (rs 0 (qz 2 (-1)^qz 3 1^qe) .ret) <| r1 61 (qm 4^q1 (.bin .mul (ci 64) (.l 0))^qm 0^qm 7^q1 (.idx (.l 2) (.l 3))^q1 (.conv (.int .i64) (.l 4))^qq .add 1^qk .sub 128^qv 4^qe))) <| r1 49 (qm 7^qk .add 1^qv 7^qe))
def c188 : C := rs 0 (qz 2 0^qz 3 0^qe) <| rs 8 (qm 0^q1 (.idx (.l 0) (ci 0))^q1 (.conv (.int .i64) (.l 1))^qv 4^qe) <| i1 11 (qm 4^qK .lss 128^qe) 12 (rs 13 (qm 4^qv 2^qz 3 1^qe) .ret) <| rs 0 (qz 5 0^qz 6 0^qe) <| sq (rs 14 (qm 4^qk .geq 194^ya^qm 4^qk .lss 224^zA 2^qe) <| cd 19 (r1 20 (qm 4^qk .sub 192^qz 5 2^qz 6 128^qV 4 1^qe)) <| rs 22 (qm 4^qk .geq 224^ya^qm 4^qk .lss 240^zA 2^qe) <| cd 27 (r1 28 (qm 4^qk .sub 224^qz 5 3^qz 6 2048^qV 4 1^qe)) <| rs 30 (qm 4^qk .geq 240^ya^qm 4^qk .lss 245^zA 2^qe) <| cd 35 (r1 36 (qm 4^qk .sub 240^qz 5 4^qz 6 65536^qV 4 1^qe)) .skip) <| i1 38 (qm 5^qk .eql 0^yo^qm 0^qh true^qm 5^qq .lss 4^zO 2^qe) 45 (rs 0 (qz 2 (-1)^qz 3 1^qe) .ret) <| sq (rs 0 (qz 7 1^qe) <| bk 0 l188_0) <| i1 69 (qm 4^qm 6^qq .lss 0^yo^qm 4^qk .gtr 1114111^zo 3^yo^qm 4^qk .geq 55296^ya^qm 4^qk .lss 57344^y0 7^qa 10^zO 7^qe) 83 (rs 0 (qz 2 (-1)^qz 3 1^qe) .ret) <| rs 84 (qm 4^qm 5^qw 2^qw 3^qe) .ret
def F188 : F := mF 1 [.t 2,.t 3] none c188
def c189 : C := rs 0 (qF 2^qe) <| rs 3 (qm 0^qk .gtr 32^ya^qm 0^qk .neq 127^za 2^ya^qm 0^qk .lss 128^yo^qm 0^qk .gtr 159^y1 6^qo 9^za 6^qv 2^qe) .ret
def F189 : F := mF 1 [.t 2] none c189
def c191 : C := rs 0 (qF 4^qe) <| rs 5 (qm 0^q1 (.bin .geq (.l 0) (.c (.int .i32 33)))^ya^qm 0^q1 (.bin .lss (.l 3) (.c (.int .i32 127)))^yo^qm 0^q1 (.bin .gtr (.l 6) (.c (.int .i32 159)))^y1 2^qo 5^za 2^ya^qm 0^q1 (.bin .neq (.l 11) (.c (.int .i32 65533)))^yo^qm 1^qk .eql 3^y1 10^qo 13^za 10^qv 4^qe) .ret
def F191 : F := mF 2 [.t 4] none c191
def l192_0 : C := .loop [] [] [] [] (lq 9 (qm 0^q1 (.bin .neq (.l 0) (.c (.str [])))^ya^qm 1^q1 (.bin .neq (.l 3) (.c (.str [])))^zA 2^qe) 14 0 <| bk 1 (rs 16 (qm 0^qc 190^q2 15 (.mov (.l 1))^qx 0^qy 1^qw 5^qw 6^qe) <| rs 21 (qm 1^qc 190^q2 20 (.mov (.l 1))^qx 0^qy 1^qw 7^qw 8^qe) <| sq (bk 2 (rs 26 (qm 5^qm 7^qq .lss 0^qv 25^qe) <| cd 25 (rs 0 (qz 4 (-1)^qe) .ret) <| rs 30 (qm 5^qm 7^qq .gtr 0^qv 29^qe) <| cd 29 (rs 0 (qz 4 1^qe) .ret) .skip)) <| r2 33 (qm 0^qm 6^q1 (.sl true 0 (.l 0) (some (.l 1)) none)^qm 1^qm 8^q1 (.sl true 0 (.l 3) (some (.l 4)) none)^qV 0 2^qw 1^qe)))
def c192 : C := rs 0 (qz 4 0^qe) <| sq (bk 0 l192_0) <| sq (bk 3 (rs 40 (qm 0^q1 (.bin .neq (.l 0) (.c (.str [])))^qv 39^qe) <| cd 39 (rs 0 (qz 4 1^qe) .ret) <| rs 43 (qm 1^q1 (.bin .neq (.l 0) (.c (.str [])))^qv 42^qe) <| cd 42 (rs 0 (qz 4 (-1)^qe) .ret) .skip)) <| rs 0 (qz 4 0^qe) .ret
def F192 : F := mF 2 [.t 4] none c192
def l195_0 : C := .loop [] [] [] [] (lq 6 (qm 0^qh true^qK .gtr 0^qe) 8 0 <| bk 1 (rs 10 (qm 0^qc 188^q2 9 (.mov (.l 1))^qx 0^qy 1^qw 4^qw 5^qe) <| i1 14 (qm 4^qK .lss 0^qe) 15 (r1 0 (qz 4 65533^qe)) <| rs 16 (qm 3^qm 4^q1 (.mks 1 1 [.int .i64 0] [(0,.l 1)])^q1 (.app 3 1 (.l 0) (.l 2))^qv 3^qe) <| r1 20 (qm 0^qm 5^q1 (.sl true 0 (.l 0) (some (.l 1)) none)^qv 0^qe)))
def c195 : C := rs 0 (qS 2 1^qe) <| rs 3 (q3 (.mko 1)^qe) <| sq (bk 0 l195_0) <| rs 23 (qm 3^qv 2^qe) .ret
def F195 : F := mF 1 [.t 2] none c195
attribute [go_sem] c142 F142 c149 F149 c153 F153 c167 F167 c168 F168 c169 F169 c171 F171 c186 F186 c187 F187 c188 F188 c189 F189 c191 F191 c192 F192 c195 F195
def c3 : C := rs 0 (qB 3 1^qS 4 5^qz 5 0^qe) <| sq (bk 0 (rs 7 (qm 0^qc 7^qn^yo^qb 3 5^qc 22^qn^zo 3^qv 6^qe) <| cd 6 (rs 0 (qS 4 5^qz 5 1^qe) .ret) <| rt 16 (qm 0^qh false^qk .gtr 0^ya^qm 0^qm 0^qh false^qk .sub 1^q1 (.iad 5 (.l 4) (.l 7))^qg 0^qJ 3^qR 3 0 3^qC 15 (ls [10,12])^qk .geq 0^za 3^qv 15^qe) <| cd 15 (rs 0 (qS 4 5^qz 5 9^qe) .ret) <| rs 33 (qm 0^qh false^qk .eql 64^qv 32^qe) <| cd 32 (rs 0 (qS 4 5^qz 5 6^qe) .ret) .skip)) <| rt 36 (qm 0^q1 (.call (.k 23) .no (some 0) [.l 0])^qb 3 5^q1 (.mks 5 1 z_1 [(0,.l 2)])^q1 (.app 37 5 (.l 1) (.l 3))^qv 4^qz 5 0^qe) .ret
def F3 : F := mF 2 [.t 4,.t 5] none c3
def l4_0 : C := .loop [] [] [] [] (lq 7 (qm 3^qm 0^qh false^qQ .lss 0^qe) 10 0 <| sq (bk 1 (i1 13 (qm 0^qm 3^qi 5^qJ 5^qc 5^qN^qe) 18 (rs 0 (qF 2^qe) .ret) <| rt 19 (qm 3^qk .gtr 0^ya^qm 0^qm 3^qk .sub 1^q1 (.iad 5 (.l 3) (.l 5))^qg 0^qJ 3^qm 0^qm 3^qi 5^qg 0^qJ 3^qC 6 (ls [8,13])^qn^zA 2^qe) <| cd 35 (rs 0 (qF 2^qe) .ret) .skip)) <| r1 11 (qm 3^qk .add 1^qv 3^qe))
def c4 : C := rs 0 (qF 2^qe) <| i1 4 (qm 0^qh false^qK .gtr 64^qe) 6 (rs 0 (qF 2^qe) .ret) <| sq (rs 0 (qz 3 0^qe) <| bk 0 l4_0) <| rs 0 (qT 2^qe) .ret
def F4 : F := mF 1 [.t 2] none c4
def c5 : C := rs 0 (qB 1 0^qF 2^qe) <| i1 3 (qr 1 3^ya^qr 1 4^qh true^qk .gtr 0^zA 2^qe) 10 (rs 0 (qF 2^qe) .ret) <| rs 11 (qR 1 0 3^qc 24^ya^qr 1 4^qh true^qk .lss 17^za 3^qv 2^qe) .ret
def F5 : F := mF 1 [.t 2] none c5
def c6 : C := rs 0 (qB 2 0^qB 3 1^qF 4^qe) <| i1 5 (qr 2 0^qr 3 0^qQ .neq 1^qe) 9 (rs 10 (qr 2 0^qr 3 0^qq .lss 1^qv 4^qe) .ret) <| i1 15 (qr 2 1^qr 3 1^qQ .neq 1^qe) 19 (rs 20 (qr 2 1^qr 3 1^qq .lss 1^qv 4^qe) .ret) <| rs 25 (qr 2 2^qr 3 2^qq .lss 1^qv 4^qe) .ret
def F6 : F := mF 2 [.t 4] none c6
def l7_0 : C := .loop [] [] [4] [] (rs 8 (q3 (.bin .lss (.g 7) (.g 6))^qe) <| sq (cd 8 .skip <| .exit 0) <| sq (bk 1 (rs 9 (qm 7^q1 (.iad 5 (.g 5) (.g 7))^qJ 5^qG 4 z_1^qV 3 0^qs 4 5 3 2^qe) <| rt 12 (qb 4 5^qc 22^qn^yo^qm 3^qk .gtr 0^ya^qm 0^qm 3^qk .sub 1^q1 (.iad 5 (.l 7) (.l 9))^qg 0^qJ 3^qR 4 0 3^qC 15 (ls [12,14])^qk .geq 0^y0 3^qa 6^zO 3^qe) <| cd 30 (rs 0 (qF 2^qe) .ret) .skip)) <| r1 31 (q1 (.bin .add (.g 7) (ci 1))^qv 7^qe))
def c7 : C := rs 0 (qF 2^qe) <| sq (rs 5 (q3 (.mov (.g 0))^qH false^q3 (.mov (ci 0))^qe) <| bk 0 l7_0) <| rs 32 (qm 0^qh false^qk .leq 64^qv 2^qe) .ret
def F7 : F := mF 1 [.t 2] none c7
def c15 : C := rs 0 (qB 2 0^qB 3 1^qz 4 0^qe) <| rt 5 (qr 2 0^qr 3 0^qC 26 (ls [1,3])^qr 2 1^qr 3 1^qC 26 (ls [6,8])^qr 2 2^qr 3 2^qC 26 (ls [11,13])^q1 (.mks 1 3 [.int .i64 0] [(0,.l 4),(1,.l 9),(2,.l 14)])^qc 27^qv 4^qe) .ret
def F15 : F := mF 2 [.t 4] none c15
def c22 : C := rs 0 (qB 1 0^qF 2^qe) <| rs 3 (qR 1 0 3^qc 28^ya^qr 1 4^qh true^qk .leq 16^za 3^ya^qr 1 3^qn^yo^qr 1 4^q1 (.bin .eql (.l 15) (.c (.str [])))^y1 9^qo 13^za 9^qv 2^qe) .ret
def F22 : F := mF 1 [.t 2] none c22
def c24 : C := rs 0 (qB 1 0^qF 2^qe) <| rs 3 (qr 1 0^qk .geq 0^ya^qr 1 0^qk .leq 1099511627776^za 3^ya^qr 1 1^qk .geq 0^za 8^ya^qr 1 1^qk .leq 1048576^za 13^ya^qr 1 2^qk .geq 0^za 18^ya^qr 1 2^qk .leq 255^za 23^qv 2^qe) .ret
def F24 : F := mF 1 [.t 2] none c24
def c26 : C := rs 0 (qz 4 0^qe) <| rs 7 (qm 0^qc 31^qv 5^qe) <| rs 9 (qm 1^qc 31^qv 6^qe) <| i1 11 (q3 (.mov (.g 5))^qe) 11 (i1 12 (q3 (.mov (.g 6))^qe) 12 (rs 0 (qz 4 0^qe) .ret) <| rs 0 (qz 4 (-1)^qe) .ret) <| i1 13 (q3 (.mov (.g 6))^qe) 13 (rs 0 (qz 4 1^qe) .ret) <| i1 14 (qm 0^qm 1^qQ .lss 0^qe) 16 (rs 0 (qz 4 (-1)^qe) .ret) <| i1 17 (qm 0^qm 1^qQ .gtr 0^qe) 19 (rs 0 (qz 4 1^qe) .ret) <| rs 0 (qz 4 0^qe) .ret
def F26 : F := mF 2 [.t 4] none c26
def l27_0 : C := .loop [] [] [] [] (rs 9 (q3 (.bin .lss (.g 8) (.g 7))^qe) <| sq (cd 9 .skip <| .exit 0) <| sq (bk 1 (rs 10 (q1 (.iad 1 (.g 6) (.g 8))^qj^qv 5^qe) <| rs 12 (qm 5^qm 3^qQ .neq 0^qe) <| cd 14 (rs 15 (qm 5^qv 2^qe) .ret) .skip)) <| r1 16 (q1 (.bin .add (.g 8) (ci 1))^qv 8^qe))
def c27 : C := rs 0 (qz 2 0^qe) <| rs 0 (qz 3 0^qe) <| sq (rs 6 (q3 (.mov (.g 0))^qH false^q3 (.mov (ci 0))^qe) <| bk 0 l27_0) <| rs 17 (qm 3^qv 2^qe) .ret
def F27 : F := mF 1 [.t 2] none c27
def c28 : C := rs 0 (qB 1 0^qF 2^qe) <| rs 3 (qr 1 0^qC 32 [.l 1,ci 1099511627776]^ya^qr 1 1^qC 32 [.l 5,ci 1048576]^za 3^ya^qr 1 2^qC 32 [.l 10,ci 255]^za 8^qv 2^qe) .ret
def F28 : F := mF 1 [.t 2] none c28
def c31 : C := rs 0 (qF 2^qe) <| rs 3 (qm 0^qm 0^qq .neq 0^qv 2^qe) .ret
def F31 : F := mF 1 [.t 2] none c31
def c32 : C := rs 0 (qF 4^qe) <| rs 5 (qm 0^qk .geq 0^ya^qm 0^qm 1^qq .leq 3^za 2^qv 4^qe) .ret
def F32 : F := mF 2 [.t 4] none c32
attribute [go_sem] c3 F3 c4 F4 c5 F5 c6 F6 c7 F7 c15 F15 c22 F22 c24 F24 c26 F26 c27 F27 c28 F28 c31 F31 c32 F32
def l80_0 : C := .loop [] [] [] [] (lq 7 (qm 3^qm 0^qh false^qQ .lss 0^qe) 10 0 <| sq (bk 1 (i1 13 (qm 0^qm 3^qi 11^qg 0^qj^qc 95^qn^yo^qm 0^qm 3^qi 11^qg 1^qj^qc 95^qn^zo 7^yo^qm 0^qm 3^qi 11^qg 2^qJ 9^qc 96^qn^zO 16^qe) 37 (rs 0 (qF 2^qe) .ret) <| rt 38 (qm 3^qk .gtr 0^ya^qm 0^qm 3^qk .sub 1^q1 (.iad 11 (.l 3) (.l 5))^qg 0^qj^qm 0^qm 3^qi 11^qg 0^qj^qq .geq 8^zA 2^qe) <| cd 53 (rs 0 (qF 2^qe) .ret) .skip)) <| r1 11 (qm 3^qk .add 1^qv 3^qe))
def c80 : C := rs 0 (qF 2^qe) <| i1 4 (qm 0^qh false^qK .gtr 8^qe) 6 (rs 0 (qF 2^qe) .ret) <| sq (rs 0 (qz 3 0^qe) <| bk 0 l80_0) <| rs 0 (qT 2^qe) .ret
def F80 : F := mF 1 [.t 2] none c80
def l81_0 : C := .loop [] [] [5] [] (rs 9 (q3 (.bin .lss (.g 8) (.g 7))^qe) <| sq (cd 9 .skip <| .exit 0) <| sq (bk 1 (rs 10 (q1 (.iad 11 (.g 6) (.g 8))^qJ 11^qG 5 z_2^qs 5 11 2 1^qe) <| i1 12 (qr 5 0^qm 3^qq .leq 1^yo^qr 5 0^qc 97^qn^zo 4^yo^qr 5 1^qc 97^qn^zo 10^yo^qR 5 2 9^qc 98^qn^zO 16^qe) 33 (rs 0 (qF 2^qe) .ret) <| r1 34 (qr 5 0^qv 3^qe))) <| r1 36 (q1 (.bin .add (.g 8) (ci 1))^qv 8^qe))
def c81 : C := rs 0 (qF 2^qe) <| rs 0 (qz 3 0^qe) <| sq (rs 6 (q3 (.mov (.g 0))^qH false^q3 (.mov (ci 0))^qe) <| bk 0 l81_0) <| rs 37 (qm 0^qh false^qk .leq 8^qv 2^qe) .ret
def F81 : F := mF 1 [.t 2] none c81
def c82 : C := rs 0 (qz 6 0^qe) <| i1 9 (qm 0^qc 81^qn^yo^qm 1^qc 97^qn^zo 3^yo^qm 2^qc 97^qn^zO 8^qe) 21 (rs 0 (qz 6 0^qe) .ret) <| rs 23 (qm 0^qm 1^qd 84^q2 22 (.mov (.l 2))^qx 0^qy 1^qG 7 z_2^qs 7 11 6 4^qV 8 5^qe) <| sq (bk 0 (rs 29 (qm 8^qn^yo^qm 2^qr 7 1^qq .gtr 3^zo 2^qv 28^qe) <| cd 28 (rs 0 (qz 6 1^qe) .ret) <| rs 38 (qm 2^qr 7 1^qq .eql 0^qv 37^qe) <| cd 37 (rs 0 (qz 6 2^qe) .ret) .skip)) <| rs 0 (qz 6 3^qe) .ret
def F82 : F := mF 3 [.t 6] none c82
def c84 : C := rs 0 (qG 4 z_2^qF 5^qe) <| i1 8 (qm 0^qc 81^qN^qe) 10 (rs 11 (q1 (.build z_2 [])^qt 4 11 0^qF 5^qe) .ret) <| rs 13 (qm 0^qm 1^qd 100^q2 12 (.mov (.l 2))^qx 0^qy 1^qw 6^qw 7^qe) <| i1 18 (qm 7^qN^qe) 19 (rs 20 (q1 (.build z_2 [])^qt 4 11 0^qF 5^qe) .ret) <| rs 21 (qm 0^qm 6^qi 11^qJ 11^qt 4 11 3^qT 5^qe) .ret
def F84 : F := mF 2 [.cell 4 (some 11),.t 5] none c84
def c88 : C := rs 0 (qB 3 1^qS 4 11^qz 5 0^qe) <| i1 9 (qm 0^qc 81^qn^yo^qb 3 11^q1 (.mks 11 1 z_2 [(0,.l 4)])^qc 81^qn^zO 3^qe) 17 (rs 0 (qS 4 11^qz 5 1^qe) .ret) <| rs 19 (qm 0^qr 3 0^qC 100 (ls [0,2])^q2 18 (.mov (.l 3))^qx 0^qy 1^qw 6^qw 7^qe) <| sq (bk 0 (rt 26 (qm 7^ya^qm 0^qm 6^qi 11^qg 1^qj^qr 3 1^qq .geq 6^za 1^qv 25^qe) <| cd 25 (rs 0 (qS 4 11^qz 5 9^qe) .ret) <| rs 38 (qm 7^qn^ya^qm 0^qh false^qk .eql 8^za 2^qv 37^qe) <| cd 37 (rs 0 (qS 4 11^qz 5 6^qe) .ret) .skip)) <| rs 45 (qm 0^q1 (.call (.k 102) .no (some 0) [.l 0])^qv 8^qe) <| i1 47 (q3 (.mov (.g 7))^qe) 47 (rs 48 (qm 8^qm 6^qb 3 11^q1 (.iad 11 (.l 0) (.l 1))^q5 (.store (.e 46) 11 (.l 3) (.l 2))^qe) <| rs 52 (qm 8^qv 4^qz 5 0^qe) .ret) <| rs 53 (qm 8^qm 6^qb 3 11^q1 (.mks 11 1 z_2 [(0,.l 2)])^q1 (.ins 103 46 11 (.l 0) (.l 1) (.l 3))^qv 4^qz 5 0^qe) .ret
def F88 : F := mF 2 [.t 4,.t 5] none c88
def c95 : C := rs 0 (qF 2^qe) <| rs 3 (qm 0^qk .gtr 0^ya^qm 0^qk .leq 1099511627776^za 2^qv 2^qe) .ret
def F95 : F := mF 1 [.t 2] none c95
def c96 : C := rs 0 (qB 1 0^qF 2^qe) <| i1 3 (qr 1 0^qk .lss 0^yo^qr 1 0^qk .gtr 16^zo 3^yo^qr 1 5^qh true^qk .gtr 16^zo 8^yo^qr 1 6^qh false^qk .gtr 0^zo 14^yo^qr 1 7^qh true^qk .gtr 0^zo 20^yo^qr 1 8^zO 26^qe) 32 (rs 0 (qF 2^qe) .ret) <| rs 33 (qR 1 1 3^qc 24^qv 2^qe) .ret
def F96 : F := mF 1 [.t 2] none c96
def c97 : C := rs 0 (qF 2^qe) <| rs 3 (qm 0^qk .geq 1^ya^qm 0^qk .leq 1099511627776^za 2^qv 2^qe) .ret
def F97 : F := mF 1 [.t 2] none c97
def c98 : C := rs 0 (qB 1 0^qF 2^qe) <| rs 3 (qr 1 0^qk .geq 0^ya^qr 1 0^qk .leq 16^za 3^ya^qR 1 1 3^qc 28^za 8^ya^qr 1 5^qh true^qk .leq 16^za 13^ya^qr 1 6^qh false^qk .eql 0^za 19^ya^qr 1 7^q1 (.bin .eql (.l 27) (.c (.str [])))^za 25^ya^qr 1 8^qn^za 30^qv 2^qe) .ret
def F98 : F := mF 1 [.t 2] none c98
def c100 : C := rs 0 (qB 3 1^qz 4 0^qF 5^qe) <| rs 7 (qm 0^q1 (.fn 105 [.g 3] [3])^qd 106^qv 6^qe) <| i1 10 (qm 6^qK .lss 0^qe) 11 (rs 12 (qm 0^qh false^qv 4^qF 5^qe) .ret) <| rt 14 (qm 6^qm 0^qm 6^qi 11^qg 0^qj^q1 (.load (.v 3) none (.g 3))^qq .eql 5^qV 4 0^qw 5^qe) .ret
def F100 : F := mF 2 [.t 4,.t 5] none c100
def l101_0 : C := .loop [] [] [] [] (lq 13 (qm 5^qr 2 6^qh false^qQ .lss 0^qe) 17 0 <| sq (bk 1 (rt 20 (qr 2 6^qm 5^qi 2^qJ 2^qr 3 6^qm 5^qi 2^qJ 2^q3 (.eqa true [.s,.s] (.l 4) (.l 9))^qe) <| cd 30 (rs 0 (qF 4^qe) .ret) .skip)) <| r1 18 (qm 5^qk .add 1^qv 5^qe))
def c101 : C := rs 0 (qB 2 0^qB 3 1^qF 4^qe) <| i1 6 (qr 2 6^qh false^qr 3 6^qh false^qQ .neq 2^qe) 12 (rs 0 (qF 4^qe) .ret) <| sq (rs 0 (qz 5 0^qe) <| bk 0 l101_0) <| rs 31 (qr 2 0^qr 3 0^qq .eql 1^ya^qR 2 1 3^qR 3 1 3^q1 (.eqa false [.i,.i,.i] (.l 7) (.l 9))^za 5^ya^qr 2 4^qr 3 4^q1 (.eqb false (.l 14) (.l 16))^za 12^ya^qr 2 5^qr 3 5^qq .eql 21^za 19^ya^qr 2 7^qr 3 7^qq .eql 28^za 26^ya^qr 2 8^qr 3 8^q1 (.eqb false (.l 35) (.l 37))^za 33^qv 4^qe) .ret
def F101 : F := mF 2 [.t 4] none c101
def l106_0 : C := .loop [] [] [] [] (rs 9 (q3 (.bin .lss (.g 8) (.g 7))^qe) <| sq (cd 9 .skip <| .exit 0) <| sq (bk 1 (rs 10 (qm 8^qv 5^qe) <| rs 11 (qm 1^qm 0^qm 5^qi 11^qJ 11^q3 (.call (.v (.l 0)) .no none [.l 4])^qe) <| cd 16 (rs 17 (qm 5^qv 4^qe) .ret) .skip)) <| r1 18 (q1 (.bin .add (.g 8) (ci 1))^qv 8^qe))
def c106 : C := rs 0 (qz 4 0^qe) <| sq (rs 6 (qm 0^qH false^q3 (.mov (ci 0))^qe) <| bk 0 l106_0) <| rs 0 (qz 4 (-1)^qe) .ret
def F106 : F := mF 2 [.t 4] none c106
attribute [go_sem] c80 F80 c81 F81 c82 F82 c84 F84 c88 F88 c95 F95 c96 F96 c97 F97 c98 F98 c100 F100 c101 F101 c106 F106
def l37_0 : C := .loop [] [] [] [] (lq 46 (qm 3^qr 1 6^qh false^qQ .lss 0^qe) 50 0 <| sq (bk 1 (rt 53 (qr 1 2^qr 1 6^qm 3^qi 1^qj^qC 62 (ls [1,6])^qN^qe) <| cd 61 (rs 0 (qF 2^qe) .ret) .skip)) <| r1 51 (qm 3^qk .add 1^qv 3^qe))
def c37 : C := rs 0 (qB 1 0^qF 2^qe) <| i1 4 (qr 1 0^qk .lss 1^yo^qr 1 0^qk .gtr 255^zo 3^yo^qr 1 1^qk .neq 0^ya^qr 1 1^qc 60^qn^y0 8^qa 12^zo 8^yo^qr 1 3^qk .neq 0^ya^qr 1 3^qc 60^qn^y0 19^qa 23^zo 19^yo^qr 1 2^qc 61^qn^zo 30^yo^qr 1 6^qc 61^qn^zO 36^qe) 45 (rs 0 (qF 2^qe) .ret) <| sq (rs 0 (qz 3 0^qe) <| bk 0 l37_0) <| i1 62 (qr 1 2^qh false^qk .gtr 0^ya^qr 1 2^qr 1 0^qC 62 (ls [6,8])^qn^zA 4^qe) 73 (rs 0 (qF 2^qe) .ret) <| i1 74 (qb 1 7^qc 38^qN^qe) 76 (rs 77 (qr 1 6^qh false^qk .eql 0^ya^qr 1 4^qr 1 5^qq .eql 6^za 4^qv 2^qe) .ret) <| i1 88 (qr 1 6^qr 1 0^qC 62 (ls [1,3])^qN^qe) 93 (rs 0 (qF 2^qe) .ret) <| rs 94 (qb 1 7^qc 42^qn^yo^qr 1 4^qr 1 5^qq .eql 5^zo 3^qv 2^qe) .ret
def F37 : F := mF 1 [.t 2] none c37
def c38 : C := rs 0 (qB 1 0^qF 2^qe) <| rt 3 (qr 1 2^qh false^qk .gtr 0^ya^qr 1 2^q1 (.iad 1 (.l 6) (ci 0))^qj^qr 1 0^qq .eql 8^za 4^qv 2^qe) .ret
def F38 : F := mF 1 [.t 2] none c38
def c39 : C := rs 0 (qB 1 0^qF 2^qe) <| i1 3 (qr 1 0^qk .lss 1^yo^qr 1 0^qk .gtr 255^zo 3^yo^qr 1 1^qC 63 [.l 10,ci 0]^qn^zo 8^yo^qr 1 3^qC 63 [.l 16,ci 0]^qn^zo 14^yo^qr 1 2^qc 64^qn^zo 20^yo^qr 1 6^qc 64^qn^zO 26^qe) 34 (rs 0 (qF 2^qe) .ret) <| i1 35 (qr 1 2^qh false^qk .gtr 0^ya^qr 1 2^qr 1 0^qC 65 (ls [6,8])^qn^zA 4^qe) 46 (rs 0 (qF 2^qe) .ret) <| i1 47 (qr 1 6^q1 (.fn 66 [.g 1] [1])^q3 (.call (.k 67) .no none [.l 1,.l 2])^qe) 50 (rs 0 (qF 2^qe) .ret) <| i1 51 (qb 1 7^qc 68^qN^qe) 53 (rs 54 (qr 1 6^qh false^qk .eql 0^ya^qr 1 4^qr 1 5^qq .eql 6^za 4^qv 2^qe) .ret) <| rs 65 (qr 1 6^qr 1 0^qC 65 (ls [1,3])^ya^qr 1 6^qh false^qr 1 2^qh false^qq .lss 8^yo^qr 1 4^qr 1 5^qq .eql 15^y1 5^qo 13^za 5^qv 2^qe) .ret
def F39 : F := mF 1 [.t 2] none c39
def c40 : C := rs 0 (qB 1 0^qF 2^qe) <| rs 3 (qb 1 7^qc 39^ya^qb 1 7^qc 68^za 2^qv 2^qe) .ret
def F40 : F := mF 1 [.t 2] none c40
def c41 : C := rs 0 (qB 1 0^qF 2^qe) <| rs 3 (qb 1 7^qc 40^ya^qr 1 6^qh false^qr 1 2^qh false^qq .lss 5^za 2^qv 2^qe) .ret
def F41 : F := mF 1 [.t 2] none c41
def l42_0 : C := .loop [] [] [] [] (lq 4 (qm 3^qr 1 2^qh false^qQ .lss 0^qe) 8 0 <| sq (bk 1 (rt 11 (qr 1 6^qr 1 2^qm 3^qi 1^qj^qC 62 (ls [1,6])^qN^qe) <| cd 19 (rs 0 (qF 2^qe) .ret) .skip)) <| r1 9 (qm 3^qk .add 1^qv 3^qe))
def c42 : C := rs 0 (qB 1 0^qF 2^qe) <| sq (rs 0 (qz 3 0^qe) <| bk 0 l42_0) <| rs 0 (qT 2^qe) .ret
def F42 : F := mF 1 [.t 2] none c42
def c43 : C := rs 0 (qG 6 z_3^qz 7 0^qe) <| rs 9 (qm 0^qm 1^qc 69^qm 2^qm 2^q1 (.build z_3 [(0,1,.l 0),(1,1,.c (.int .i64 1)),(2,1,.l 2),(3,1,.c (.int .i64 1)),(4,1,.l 3),(5,1,.l 4)])^qG 8 z_3^qs 8 7 6 5^qe) <| i1 15 (qb 8 7^q3 (.call (.k 68) .no none [.l 0])^qe) 16 (r1 17 (qm 1^qc 69^qf 8 6^qs 8 1 2 1^qe)) <| i1 20 (qm 1^qh false^qk .eql 0^yo^qb 8 7^qc 39^qn^zO 3^qe) 27 (rs 28 (q1 (.build z_3 [])^qt 6 7 0^qz 7 1^qe) .ret) <| rs 29 (qb 8 7^qt 6 7 0^qz 7 0^qe) .ret
def F43 : F := mF 3 [.cell 6 (some 7),.t 7] none c43
def c45 : C := rs 0 (qB 2 0^qB 3 1^qF 4^qe) <| rs 5 (qr 2 0^qr 3 0^qq .eql 1^ya^qr 2 1^qr 3 1^qq .eql 7^za 5^ya^qr 2 2^qr 3 2^qC 70 (ls [14,16])^za 12^ya^qr 2 3^qr 3 3^qq .eql 21^za 19^ya^qr 2 4^qr 3 4^qq .eql 28^za 26^ya^qr 2 5^qr 3 5^qq .eql 35^za 33^ya^qr 2 6^qr 3 6^qC 70 (ls [42,44])^za 40^qv 4^qe) .ret
def F45 : F := mF 2 [.t 4] none c45
def c47 : C := rs 0 (qB 2 0^qG 4 z_3^qS 5 7^qz 6 0^qe) <| sq (bk 0 (rs 8 (qb 2 7^qc 39^qn^qv 7^qe) <| cd 7 (rs 11 (q1 (.build z_3 [])^qt 4 7 0^qS 5 7^qz 6 1^qe) .ret) <| rs 13 (qb 2 7^qc 68^qn^qv 12^qe) <| cd 12 (rs 16 (q1 (.build z_3 [])^qt 4 7 0^qS 5 7^qz 6 10^qe) .ret) <| rs 18 (qb 2 7^qc 41^qv 17^qe) <| cd 17 (rs 20 (q1 (.build z_3 [])^qt 4 7 0^qS 5 7^qz 6 11^qe) .ret) <| rs 22 (qr 2 3^qk .eql 1099511627776^qv 21^qe) <| cd 21 (rs 25 (q1 (.build z_3 [])^qt 4 7 0^qS 5 7^qz 6 6^qe) .ret) .skip)) <| rs 26 (qr 2 3^qk .add 1^qf 2 3^qs 2 1 3 2^qe) <| rs 30 (qm 1^qr 2 0^q1 (.mks 1 1 [.int .i64 0] [(0,.l 2)])^qf 2 5^qs 2 1 4 0^qf 2 6^qs 2 1 6 3^qe) <| rt 36 (qb 2 7^qc 71^qb 2 7^qc 72^qt 4 7 1^qw 5^qz 6 0^qe) .ret
def F47 : F := mF 2 [.cell 4 (some 7),.t 5,.t 6] none c47
def c60 : C := rs 0 (qF 2^qe) <| rs 3 (qm 0^qk .geq 1^ya^qm 0^qk .leq 1099511627776^za 2^qv 2^qe) .ret
def F60 : F := mF 1 [.t 2] none c60
def l61_1 : C := .loop [] [] [] [] (lq 26 (qm 4^qm 3^qQ .lss 0^qe) 28 2 <| sq (bk 3 (rt 31 (qm 0^qm 4^qi 1^qj^qm 0^qm 3^qi 1^qj^qQ .eql 3^qe) <| cd 39 (rs 0 (qF 2^qe) .ret) .skip)) <| r1 29 (qm 4^qk .add 1^qv 4^qe))
def l61_0 : C := .loop [] [] [] [] (lq 8 (qm 3^qm 0^qh false^qQ .lss 0^qe) 11 0 <| sq (bk 1 (i1 14 (qm 0^qm 3^qi 1^qj^qk .lss 1^yo^qm 0^qm 3^qi 1^qj^qk .gtr 255^zO 5^qe) 25 (rs 0 (qF 2^qe) .ret) <| rs 0 (qz 4 0^qe) <| bk 2 l61_1)) <| r1 12 (qm 3^qk .add 1^qv 3^qe))
def c61 : C := rs 0 (qF 2^qe) <| i1 5 (qm 0^qh false^qK .gtr 8^qe) 7 (rs 0 (qF 2^qe) .ret) <| sq (rs 0 (qz 3 0^qe) <| bk 0 l61_0) <| rs 0 (qT 2^qe) .ret
def F61 : F := mF 1 [.t 2] none c61
def l62_0 : C := .loop [] [] [] [] (lq 6 (qm 5^qm 0^qh false^qQ .lss 0^qe) 9 0 <| sq (bk 1 (rs 12 (qm 0^qm 5^qi 1^qj^qm 1^qQ .eql 3^qe) <| cd 17 (rs 0 (qT 4^qe) .ret) .skip)) <| r1 10 (qm 5^qk .add 1^qv 5^qe))
def c62 : C := rs 0 (qF 4^qe) <| sq (rs 0 (qz 5 0^qe) <| bk 0 l62_0) <| rs 0 (qF 4^qe) .ret
def F62 : F := mF 2 [.t 4] none c62
def c63 : C := rs 0 (qF 4^qe) <| rs 5 (qm 0^qm 1^qq .geq 0^ya^qm 0^qk .leq 1099511627776^za 3^qv 4^qe) .ret
def F63 : F := mF 2 [.t 4] none c63
def l64_0 : C := .loop [] [] [] [] (rs 8 (q3 (.bin .lss (.g 7) (.g 6))^qe) <| sq (cd 8 .skip <| .exit 0) <| sq (bk 1 (rs 9 (qm 7^q1 (.iad 1 (.g 5) (.g 7))^qj^qV 3 0^qw 4^qe) <| rs 12 (qm 4^qk .lss 1^yo^qm 4^qk .gtr 255^zo 2^yo^qm 0^qm 3^q1 (.sl false 1 (.l 7) none (some (.l 8)))^qm 4^qd 65^zO 6^qe) <| cd 24 (rs 0 (qF 2^qe) .ret) .skip)) <| r1 25 (q1 (.bin .add (.g 7) (ci 1))^qv 7^qe))
def c64 : C := rs 0 (qF 2^qe) <| sq (rs 5 (q3 (.mov (.g 0))^qH false^q3 (.mov (ci 0))^qe) <| bk 0 l64_0) <| rs 26 (qm 0^qh false^qk .leq 8^qv 2^qe) .ret
def F64 : F := mF 1 [.t 2] none c64
def c65 : C := rs 0 (qF 4^qe) <| rs 5 (qm 0^qm 1^qd 75^qk .geq 0^qv 4^qe) .ret
def F65 : F := mF 2 [.t 4] none c65
def c66 : C := rs 0 (qF 3^qe) <| rs 4 (qf 1 2^qj^qm 0^qd 65^qn^qv 3^qe) .ret
def F66 : F := mF 2 [.t 3] none c66
def c67 : C := rs 0 (qF 4^qe) <| rs 5 (qm 0^qm 1^qd 76^qk .geq 0^qv 4^qe) .ret
def F67 : F := mF 2 [.t 4] none c67
def c68 : C := rs 0 (qB 1 0^qF 2^qe) <| rt 3 (qr 1 2^qh false^qk .gtr 0^ya^qr 1 2^q1 (.iad 1 (.l 6) (ci 0))^qj^qr 1 0^qq .eql 8^za 4^qv 2^qe) .ret
def F68 : F := mF 1 [.t 2] none c68
def l70_0 : C := .loop [] [] [] [] (lq 11 (qm 5^qm 0^qh false^qQ .lss 0^qe) 14 0 <| sq (bk 1 (rt 17 (qm 0^qm 5^qi 1^qj^qm 1^qm 5^qi 1^qj^qQ .neq 3^qe) <| cd 25 (rs 0 (qF 4^qe) .ret) .skip)) <| r1 15 (qm 5^qk .add 1^qv 5^qe))
def c70 : C := rs 0 (qF 4^qe) <| i1 6 (qm 0^qh false^qm 1^qh false^qQ .neq 1^qe) 10 (rs 0 (qF 4^qe) .ret) <| sq (rs 0 (qz 5 0^qe) <| bk 0 l70_0) <| rs 0 (qT 4^qe) .ret
def F70 : F := mF 2 [.t 4] none c70
def c71 : C := rs 0 (qB 1 0^qG 2 z_3^qe) <| i1 3 (qr 1 6^qh false^qr 1 2^qh false^qQ .eql 2^qe) 9 (r1 10 (qr 1 5^qf 1 4^qs 1 1 2 1^qe)) <| rs 13 (qb 1 7^qt 2 7 0^qe) .ret
def F71 : F := mF 1 [.cell 2 (some 7)] none c71
def l72_0 : C := .loop [] [] [] [] (rs 10 (q3 (.bin .lss (.g 9) (.g 8))^qe) <| sq (cd 10 .skip <| .exit 0) <| sq (bk 1 (rs 11 (q1 (.iad 1 (.g 7) (.g 9))^qj^qv 5^qe) <| rs 13 (qr 1 6^qm 5^qd 65^qN^qe) <| cd 17 (r2 18 (qm 3^qr 1 0^qm 5^qr 1 1^qr 1 3^qr 1 2^qc 69^qr 1 5^q1 (.build z_4 [(0,1,.c (.int .i64 1)),(1,1,.l 2),(2,1,.l 3),(3,1,.l 5),(4,1,.l 7),(5,1,.l 10),(6,1,.l 12)])^q1 (.mks 7 1 z_4 [(0,.l 13)])^q1 (.app 3 7 (.l 0) (.l 14))^qv 3^qe)) .skip)) <| r1 34 (q1 (.bin .add (.g 9) (ci 1))^qv 9^qe))
def c72 : C := rs 0 (qB 1 0^qS 2 7^qe) <| rs 3 (q3 (.mko 7)^qe) <| sq (rs 6 (qf 1 2^q3 (.load (.v 1) none (.l 0))^qH false^q3 (.mov (ci 0))^qe) <| bk 0 l72_0) <| rs 35 (qm 3^qv 2^qe) .ret
def F72 : F := mF 1 [.t 2] none c72
def l75_0 : C := .loop [] [] [] [] (rs 9 (q3 (.bin .lss (.g 8) (.g 7))^qe) <| sq (cd 9 .skip <| .exit 0) <| sq (bk 1 (rs 10 (qm 8^qv 5^qe) <| rs 11 (qm 1^qm 0^qm 5^qi 1^qj^qQ .eql 0^qe) <| cd 16 (rs 17 (qm 5^qv 4^qe) .ret) .skip)) <| r1 18 (q1 (.bin .add (.g 8) (ci 1))^qv 8^qe))
def c75 : C := rs 0 (qz 4 0^qe) <| sq (rs 6 (qm 0^qH false^q3 (.mov (ci 0))^qe) <| bk 0 l75_0) <| rs 0 (qz 4 (-1)^qe) .ret
def F75 : F := mF 2 [.t 4] none c75
def l76_0 : C := .loop [] [] [] [] (rs 9 (q3 (.bin .lss (.g 8) (.g 7))^qe) <| sq (cd 9 .skip <| .exit 0) <| sq (bk 1 (rs 10 (qm 8^qv 5^qe) <| rs 11 (qm 1^qm 0^qm 5^qi 1^qj^q3 (.call (.v (.l 0)) .no none [.l 4])^qe) <| cd 16 (rs 17 (qm 5^qv 4^qe) .ret) .skip)) <| r1 18 (q1 (.bin .add (.g 8) (ci 1))^qv 8^qe))
def c76 : C := rs 0 (qz 4 0^qe) <| sq (rs 6 (qm 0^qH false^q3 (.mov (ci 0))^qe) <| bk 0 l76_0) <| rs 0 (qz 4 (-1)^qe) .ret
def F76 : F := mF 2 [.t 4] none c76
attribute [go_sem] c37 F37 c38 F38 c39 F39 c40 F40 c41 F41 c42 F42 c43 F43 c45 F45 c47 F47 c60 F60 c61 F61 c62 F62 c63 F63 c64 F64 c65 F65 c66 F66 c67 F67 c68 F68 c70 F70 c71 F71 c72 F72 c75 F75 c76 F76
def c200 : C := rs 0 (qB 5 2^qS 6 2^qz 7 0^qe) <| i1 14 (qm 0^qc 203^qn^yo^qm 1^qc 170^qn^zO 3^qe) 21 (rs 0 (qS 6 2^qz 7 1^qe) .ret) <| rs 23 (qm 0^qm 1^qd 220^q2 22 (.mov (.l 2))^qx 0^qy 1^qw 8^qw 9^qe) <| rs 0 (qS 10 5^qe) <| i1 28 (q3 (.mov (.g 9))^qe) 28 (r1 29 (qm 0^qm 8^qi 2^qg 1^qj^qv 10^qe)) <| rs 35 (qm 10^qb 5 5^qd 3^q2 34 (.mov (.l 2))^qx 0^qy 1^qw 11^qw 12^qe) <| sq (bk 0 (rs 41 (qm 12^qk .neq 0^qv 40^qe) <| cd 40 (rs 43 (qm 12^qS 6 2^qw 7^qe) .ret) <| rs 45 (qm 9^qn^ya^qm 0^qh false^qk .eql 64^za 2^qv 44^qe) <| cd 44 (rs 0 (qS 6 2^qz 7 6^qe) .ret) .skip)) <| rs 52 (qm 0^q1 (.call (.k 221) .no (some 0) [.l 0])^qv 13^qe) <| i1 54 (qm 9^qN^qe) 55 (r1 56 (qm 13^qm 8^qm 1^q1 (.build z_5 [(0,1,.l 2)])^q1 (.mks 2 1 z_5 [(0,.l 3)])^q1 (.ins 222 53 2 (.l 0) (.l 1) (.l 4))^qv 13^qe)) <| rs 62 (qm 13^qm 8^qm 11^q1 (.iad 2 (.l 0) (.l 1))^qg 1^q5 (.store (.e 53) 1 (.l 4) (.l 2))^qe) <| rs 67 (qm 13^qv 6^qz 7 0^qe) .ret
def F200 : F := mF 3 [.t 6,.t 7] none c200
def l203_0 : C := .loop [] [] [4] [] (rs 8 (q3 (.bin .lss (.g 7) (.g 6))^qe) <| sq (cd 8 .skip <| .exit 0) <| sq (bk 1 (rs 9 (qm 7^q1 (.iad 2 (.g 5) (.g 7))^qJ 2^qG 4 z_5^qV 3 0^qs 4 2 3 2^qe) <| rt 12 (qr 4 0^qc 170^qn^yo^qr 4 1^qc 7^qn^zo 4^yo^qr 4 1^qh false^qk .eql 0^zo 10^yo^qm 3^qk .gtr 0^ya^qm 0^qm 3^qk .sub 1^q1 (.iad 2 (.l 20) (.l 22))^qg 0^qj^qr 4 0^qC 192 (ls [25,27])^qk .geq 0^y0 16^qa 19^zO 16^qe) <| cd 43 (rs 0 (qF 2^qe) .ret) .skip)) <| r1 44 (q1 (.bin .add (.g 7) (ci 1))^qv 7^qe))
def c203 : C := rs 0 (qF 2^qe) <| sq (rs 5 (q3 (.mov (.g 0))^qH false^q3 (.mov (ci 0))^qe) <| bk 0 l203_0) <| rs 45 (qm 0^qh false^qk .leq 64^qv 2^qe) .ret
def F203 : F := mF 1 [.t 2] none c203
def l204_0 : C := .loop [] [] [] [] (lq 7 (qm 3^qm 0^qh false^qQ .lss 0^qe) 10 0 <| sq (bk 1 (i1 13 (qm 0^qm 3^qi 2^qg 0^qj^qc 168^qn^yo^qm 0^qm 3^qi 2^qg 1^qj^qh false^qk .eql 0^zo 7^yo^qm 0^qm 3^qi 2^qg 1^qj^qc 4^qn^zO 16^qe) 37 (rs 0 (qF 2^qe) .ret) <| rt 38 (qm 3^qk .gtr 0^ya^qm 0^qm 3^qk .sub 1^q1 (.iad 2 (.l 3) (.l 5))^qg 0^qj^qm 0^qm 3^qi 2^qg 0^qj^qC 187 (ls [8,13])^qk .neq (-1)^zA 2^qe) <| cd 54 (rs 0 (qF 2^qe) .ret) .skip)) <| r1 11 (qm 3^qk .add 1^qv 3^qe))
def c204 : C := rs 0 (qF 2^qe) <| i1 4 (qm 0^qh false^qK .gtr 64^qe) 6 (rs 0 (qF 2^qe) .ret) <| sq (rs 0 (qz 3 0^qe) <| bk 0 l204_0) <| rs 0 (qT 2^qe) .ret
def F204 : F := mF 1 [.t 2] none c204
def c220 : C := rs 0 (qz 4 0^qF 5^qe) <| rs 6 (qm 0^qm 1^qC 225 [.l 0,.l 1,.f 226]^qx 0^qy 1^qw 4^qw 5^qe) .ret
def F220 : F := mF 2 [.t 4,.t 5] none c220
def l221_0 : C := .loop [] [] [] [] (rs 10 (q3 (.bin .lss (.g 9) (.g 8))^qe) <| sq (cd 10 .skip <| .exit 0) <| sq (bk 1 (rs 11 (qm 9^qv 4^qe) <| r1 12 (qm 3^qm 4^qm 3^qm 4^qi 2^qg 1^q1 (.load (.e 6) none (.l 5))^qc 23^q1 (.iad 2 (.l 0) (.l 1))^qg 1^q5 (.store (.e 6) 1 (.l 9) (.l 7))^qe))) <| r1 22 (q1 (.bin .add (.g 9) (ci 1))^qv 9^qe))
def c221 : C := rs 0 (qS 2 2^qe) <| rs 5 (qm 0^q1 (.call (.k 227) .no (some 0) [.l 0])^qv 3^qe) <| sq (rs 7 (qm 3^qH false^q3 (.mov (ci 0))^qe) <| bk 0 l221_0) <| rs 23 (qm 3^qv 2^qe) .ret
def F221 : F := mF 1 [.t 2] (some 0) c221
def l225_0 : C := .loop [] [] [] [] (lq 15 (qm 9^qm 10^qQ .lss 0^qe) 17 0 <| bk 1 (rs 18 (qm 9^qm 10^qq .add 0^q1 (.conv (.int .u64) (.l 2))^q1 (.sh .shr (.l 3) (.c (.int .u64 1)))^q1 (.conv (.int .i64) (.l 4))^qv 11^qe) <| rs 24 (qm 2^qm 0^qm 11^qi 2^qJ 2^qm 1^q1 (.call (.v (.l 0)) .no none [.l 4,.l 5])^qK .lss 0^qe) <| cd 31 (r1 32 (qm 11^qk .add 1^qv 9^qe)) <| r1 34 (qm 11^qv 10^qe)))
def c225 : C := rs 0 (qz 6 0^qF 7^qe) <| rs 12 (qm 0^qh false^qv 8^qe) <| rs 14 (qm 8^qz 9 0^qw 10^qe) <| sq (bk 0 l225_0) <| rs 35 (qm 9^qm 9^qm 8^qq .lss 1^ya^qm 2^qm 0^qm 9^qi 2^qJ 2^qm 1^q1 (.call (.v (.l 5)) .no none [.l 9,.l 10])^qk .eql 0^za 4^qV 6 0^qw 7^qe) .ret
def F225 : F := mF 3 [.t 6,.t 7] none c225
attribute [go_sem] c200 F200 c203 F203 c204 F204 c220 F220 c221 F221 c225 F225
def c240 : C := rs 0 (qB 6 0^qB 9 3^qB 10 4^qG 12 z_6^qG 13 z_7^qe) <| i1 16 (qb 6 5^qc 249^qn^yo^qm 1^qm 2^q1 (.mks 1 2 [.int .i64 0] [(0,.l 4),(1,.l 5)])^qC 284 [ci 1,.l 6]^qn^zo 3^yo^qm 5^q1 (.mks 1 1 [.int .i64 0] [(0,.l 11)])^qC 284 [ci 0,.l 12]^qn^zo 10^yo^qb 10 3^qc 28^qn^zo 16^yo^qb 9 12^qc 285^qn^zO 21^qe) 41 (rt 42 (qb 6 5^qC 286 [ci 1]^qt 12 5 0^qt 13 9 1^qe) .ret) <| rs 44 (qb 6 5^qm 1^qd 287^qG 14 z_8^qs 14 17 3 2^qe) <| rs 47 (qr 9 3^q1 (.bin .eql (.l 1) (.c (.str [])))^ya^qf 14 2^qg 0^ql 14^q1 (.bin .eql (.l 6) (.c (.str [])))^za 3^yo^qR 14 2 2^qr 9 3^qC 171 (ls [11,13])^zo 9^qv 15^qe) <| sq (bk 0 (rs 64 (qr 14 0^qk .eql 0^yo^qr 14 1^qm 2^qq .neq 5^zo 3^yo^qm 15^qn^zo 9^qv 63^qe) <| cd 63 (rt 77 (qb 6 5^qC 286 [ci 10]^qt 12 5 0^qt 13 9 1^qe) .ret) <| rs 80 (qr 14 4^qk .neq 1^yo^qb 9 12^qc 288^ya^qr 14 13^qk .neq 0^y0 3^qa 6^zo 3^qv 79^qe) <| cd 79 (rt 92 (qb 6 5^qC 286 [ci 11]^qt 12 5 0^qt 13 9 1^qe) .ret) <| rs 95 (qb 9 12^qc 288^qv 94^qe) <| cd 94 (rs 97 (qb 6 5^qb 14 17^qb 9 12^qb 10 3^qC 289 (ls [0,1,2,3])^qx 0^qy 1^qt 12 5 5^qt 13 9 6^qe) .ret) <| rs 105 (qr 9 2^qk .eql 4^qv 104^qe) <| cd 104 (rt 108 (qb 6 5^qb 6 5^qb 14 17^qr 9 3^qC 290 (ls [1,2,4])^qt 12 5 0^qt 13 9 5^qe) .ret) .skip)) <| rs 114 (qb 6 5^qb 14 17^qb 9 12^qm 5^qC 291 (ls [0,1,2,3])^qx 0^qy 1^qt 12 5 5^qt 13 9 6^qe) .ret
def F240 : F := mF 6 [.cell 12 (some 5),.cell 13 (some 9)] none c240
def c244 : C := rs 0 (qB 1 0^qF 2^qe) <| i1 3 (qr 1 0^qr 1 1^q1 (.mks 1 2 [.int .i64 0] [(0,.l 1),(1,.l 3)])^qC 284 [ci 1,.l 4]^qn^yo^qr 1 13^qr 1 14^qr 1 15^qr 1 16^q1 (.mks 1 4 [.int .i64 0] [(0,.l 9),(1,.l 11),(2,.l 13),(3,.l 15)])^qC 284 [ci 0,.l 16]^qn^zo 7^yo^qr 1 4^qk .lss 1^zo 20^yo^qr 1 4^qk .gtr 3^zO 25^qe) 32 (rs 0 (qF 2^qe) .ret) <| i1 33 (qR 1 2 2^qc 186^qn^yo^qr 1 5^qc 203^qn^zo 4^yo^qR 1 6 3^qc 28^qn^zo 10^yo^qR 1 9 3^qc 28^qn^zo 16^yo^qr 1 12^qc 81^qn^zO 22^qe) 60 (rs 0 (qF 2^qe) .ret) <| rs 61 (qr 1 5^q1 (.fn 298 [.g 1] [1])^qd 299^qn^qv 2^qe) .ret
def F244 : F := mF 1 [.t 2] none c244
def l245_0 : C := .loop [] [] [] [] (lq 81 (qm 3^qr 1 5^qh false^qQ .lss 0^qe) 85 0 <| sq (bk 1 (rt 88 (qR 1 2 2^qr 1 5^qm 3^qi 2^qg 0^qj^qC 142 (ls [1,7])^qN^qe) <| cd 97 (rs 0 (qF 2^qe) .ret) .skip)) <| r1 86 (qm 3^qk .add 1^qv 3^qe))
def r245_10 : List Op := (qT 2^qe) 0 0 none
def c245 : C := rs 0 (qB 1 0^qF 2^qe) <| i1 4 (qr 1 0^qc 292^qn^yo^qr 1 1^qc 292^qn^zo 4^yo^qr 1 13^qc 293^qn^zo 10^yo^qr 1 14^qc 293^qn^zo 16^yo^qr 1 15^qc 293^qn^zo 22^yo^qr 1 16^qc 293^qn^zO 28^qe) 37 (rs 0 (qF 2^qe) .ret) <| i1 38 (qr 1 4^qk .neq 1^ya^qr 1 4^qk .neq 2^za 3^ya^qr 1 4^qk .neq 3^za 8^yo^qR 1 2 2^qc 167^qn^zo 13^yo^qr 1 5^qc 204^qn^zo 19^yo^qR 1 6 3^qc 24^qn^zo 25^yo^qR 1 9 3^qc 24^qn^zo 31^yo^qr 1 12^qc 80^qn^zO 37^qe) 80 (rs 0 (qF 2^qe) .ret) <| sq (rs 0 (qz 3 0^qe) <| bk 0 l245_0) <| sq (.region false r245_10) .ret
def F245 : F := mF 1 [.t 2] none c245
def l246_0 : C := .loop [] [] [] [] (lq 20 (qm 3^qr 1 0^qh false^qQ .lss 0^qe) 24 0 <| sq (bk 1 (rt 27 (qr 1 0^qm 3^qi 17^qJ 17^qc 245^qn^yo^qr 1 0^qm 3^qi 17^qJ 17^qR 1 1 3^qC 300 (ls [12,14])^qn^zo 7^yo^qm 3^qk .gtr 0^ya^qr 1 0^qm 3^qk .sub 1^q1 (.iad 17 (.l 23) (.l 25))^qg 0^qj^qr 1 0^qm 3^qi 17^qg 0^qj^qq .geq 28^y0 18^qa 21^zO 18^qe) <| cd 64 (rs 0 (qF 2^qe) .ret) .skip)) <| r1 25 (qm 3^qk .add 1^qv 3^qe))
def c246 : C := rs 0 (qB 1 0^qF 2^qe) <| i1 4 (qr 1 0^qh false^qk .gtr 8^yo^qR 1 1 3^qc 24^qn^zo 4^yo^qr 1 4^qc 293^qn^zO 10^qe) 19 (rs 0 (qF 2^qe) .ret) <| sq (rs 0 (qz 3 0^qe) <| bk 0 l246_0) <| rs 0 (qT 2^qe) .ret
def F246 : F := mF 1 [.t 2] none c246
def l249_0 : C := .loop [] [] [5] [] (rs 10 (q3 (.bin .lss (.g 9) (.g 8))^qe) <| sq (cd 10 .skip <| .exit 0) <| sq (bk 1 (rs 11 (q1 (.iad 17 (.g 7) (.g 9))^qJ 17^qG 5 z_8^qs 5 17 2 1^qe) <| i1 13 (qr 5 0^qm 3^qq .leq 1^yo^qb 5 17^qc 244^qn^zo 4^yo^qb 5 17^qR 1 1 3^qC 301 (ls [10,12])^qn^zO 9^qe) 28 (rs 0 (qF 2^qe) .ret) <| r1 29 (qr 5 0^qv 3^qe))) <| r1 31 (q1 (.bin .add (.g 9) (ci 1))^qv 9^qe))
def c249 : C := rs 0 (qB 1 0^qF 2^qe) <| rs 0 (qz 3 0^qe) <| sq (rs 6 (qf 1 0^q3 (.load (.v 1) none (.l 0))^qH false^q3 (.mov (ci 0))^qe) <| bk 0 l249_0) <| rs 32 (qr 1 0^qh false^qk .leq 8^ya^qR 1 1 3^qc 28^za 4^ya^qr 1 4^q1 (.mks 1 1 [.int .i64 0] [(0,.l 11)])^qC 284 [ci 0,.l 12]^za 9^qv 2^qe) .ret
def F249 : F := mF 1 [.t 2] none c249
def c284 : C := rs 0 (qB 2 0^qF 4^qe) <| rs 5 (qm 1^q1 (.fn 313 [.g 2] [2])^qd 67^qn^qv 4^qe) .ret
def F284 : F := mF 2 [.t 4] none c284
def c285 : C := rs 0 (qB 1 0^qF 2^qe) <| i1 3 (qr 1 0^qr 1 1^q1 (.mks 1 2 [.int .i64 0] [(0,.l 1),(1,.l 3)])^qC 284 [ci 1,.l 4]^qn^yo^qr 1 2^qk .lss 1^zo 7^yo^qr 1 2^qk .gtr 6^zo 12^yo^qr 1 4^qh true^qk .gtr 16^zo 17^yo^qr 1 6^qh true^qk .gtr 16^zo 23^yo^qr 1 11^qk .lss 0^zo 29^yo^qr 1 11^qk .gtr 8^zo 34^yo^qR 1 7 3^qc 28^qn^zo 39^yo^qr 1 10^q1 (.bin .neq (.l 47) (.c (.str [])))^ya^qr 1 10^qc 170^qn^y0 45^qa 49^zO 45^qe) 58 (rs 0 (qF 2^qe) .ret) <| i1 59 (qr 1 2^qK .eql 6^qe) 61 (rs 62 (qr 1 3^q1 (.bin .eql (.l 1) (.c (.str [])))^yo^qr 1 3^qc 170^zo 3^ya^qr 1 11^qk .geq 1^za 8^qv 2^qe) .ret) <| rs 75 (qr 1 3^qc 170^qv 2^qe) .ret
def F285 : F := mF 1 [.t 2] none c285
def c287 : C := rs 0 (qB 2 0^qG 4 z_8^qe) <| sq (rs 8 (qb 2 5^qm 1^qd 314^q2 7 (.mov (.l 2))^qx 0^qy 1^qw 5^qw 6^qe) <| rs 13 (q3 (.mov (.g 6))^qe) <| cd 13 (rs 14 (qr 2 0^qm 5^qi 17^qJ 17^qt 4 17 4^qe) .ret) .skip) <| rs 19 (q1 (.build z_8 [])^qt 4 17 0^qe) .ret
def F287 : F := mF 2 [.cell 4 (some 17)] none c287
def c288 : C := rs 0 (qB 1 0^qF 2^qe) <| rs 3 (qr 1 2^qk .eql 1^yo^qr 1 2^qk .eql 2^zo 3^yo^qr 1 2^qk .eql 3^zo 8^qv 2^qe) .ret
def F288 : F := mF 1 [.t 2] none c288
def c289 : C := rs 0 (qB 4 0^qB 5 1^qB 6 2^qB 7 3^qG 8 z_6^qG 9 z_7^qe) <| sq (rs 15 (qr 5 12^qr 6 0^qr 6 1^q3 (.call (.k 82) .no none [.l 1,.l 3,.l 5])^qe) <| bk 0 (rs 23 (q1 (.bin .eql (.g 21) (ci 2))^qv 22^qe) <| cd 22 (rs 25 (qr 5 12^qr 6 0^qC 84 (ls [1,3])^q2 24 (.mov (.l 4))^qx 0^qy 1^qG 10 z_2^qs 10 11 8 6^qD 11^q1 (.mov (.l 7))^qe) <| rt 32 (qb 4 5^qR 10 2 9^qt 8 5 0^qt 9 9 2^qe) .ret) <| rs 36 (q1 (.bin .eql (.g 21) (ci 3))^qv 35^qe) <| cd 35 (rt 37 (qb 4 5^qC 286 [ci 10]^qt 8 5 0^qt 9 9 1^qe) .ret) .skip)) <| i1 39 (qb 7 3^qR 4 1 3^qC 15 (ls [0,2])^qK .leq 0^qe) 43 (rt 44 (qb 4 5^qC 286 [ci 1]^qt 8 5 0^qt 9 9 1^qe) .ret) <| rs 46 (qb 4 5^qb 5 17^qr 6 3^qC 290 (ls [0,1,3])^qG 12 z_7^qs 12 9 5 4^qe) <| rs 51 (qb 7 3^qr 12 4^q1 (.build z_7 [(1,3,.l 0),(4,1,.l 2)])^qG 13 z_7^qs 13 9 4 3^qe) <| rs 0 (qz 14 0^qe) <| sq (bk 1 (rs 56 (qr 6 2^qk .eql 3^ya^qr 12 4^qr 6 5^q1 (.eqb true (.l 5) (.l 7))^yo^qr 12 4^ya^qr 12 5^qr 6 6^qq .neq 14^y0 9^qa 12^y1 3^qo 9^za 3^qv 55^qe) <| cd 55 (r2 77 (qr 12 5^qf 13 0^qu 13 2 15^qf 13 5^qs 13 1 4 1^qe)) <| rs 82 (qr 6 2^qk .neq 2^qv 81^qe) <| cd 81 (r1 86 (qr 5 5^qr 6 3^qb 7 3^qr 6 4^q1 (.build z_1 [(0,3,.l 4),(4,1,.l 6)])^qC 200 (ls [1,3,7])^q2 85 (.mov (.l 8))^qx 0^qy 1^qf 5 5^qs 5 1 12 10^qV 14 11^qe)) <| rs 99 (qr 12 4^qv 98^qe) <| cd 98 (r1 102 (qr 5 5^qr 6 3^qb 7 3^q1 (.build z_1 [(0,3,.l 4),(3,1,.c (.bool true))])^qC 200 (ls [1,3,5])^q2 101 (.mov (.l 6))^qx 0^qy 1^qf 5 5^qs 5 1 10 8^qV 14 9^qe)) .skip)) <| i1 112 (qm 14^qK .neq 0^qe) 113 (rt 114 (qb 4 5^qm 14^qc 286^qt 8 5 0^qt 9 9 2^qe) .ret) <| sq (rs 118 (qr 5 12^qr 6 0^qr 6 1^qb 13 9^q1 (.build z_2 [(0,1,.l 3),(1,1,.l 5),(2,9,.l 6)])^qC 88 (ls [1,7])^q2 117 (.mov (.l 8))^qx 0^qy 1^qf 5 12^qs 5 1 12 10^qV 14 11^qe) <| rs 130 (qm 14^qK .neq 0^qe) <| cd 131 (rt 132 (qb 4 5^qm 14^qc 286^qt 8 5 0^qt 9 9 2^qe) .ret) .skip) <| rs 135 (qb 4 5^qb 5 17^qd 304^qt 4 5 2^qe) <| rs 138 (qb 7 3^qf 4 1^qs 4 3 1 0^qe) <| rt 140 (qb 4 5^qb 13 9^qt 8 5 0^qt 9 9 1^qe) .ret
def F289 : F := mF 4 [.cell 8 (some 5),.cell 9 (some 9)] none c289
def c290 : C := rs 0 (qB 3 0^qB 4 1^qG 6 z_7^qe) <| rs 10 (qr 4 5^qm 2^qR 3 1 3^qC 312 (ls [1,2,4])^q2 9 (.mov (.l 5))^qx 0^qy 1^qG 7 z_1^qs 7 5 9 7^qV 8 8^qe) <| rs 18 (qR 7 0 3^qm 8^ya^qr 7 3^qn^za 3^qr 7 4^q1 (.build z_7 [(1,3,.l 1),(4,1,.l 7),(5,1,.l 9)])^qt 6 9 10^qe) .ret
def F290 : F := mF 3 [.cell 6 (some 9)] none c290
def c292 : C := rs 0 (qF 2^qe) <| rs 3 (qm 0^qk .gtr 0^ya^qm 0^qk .leq 1099511627776^za 2^qv 2^qe) .ret
def F292 : F := mF 1 [.t 2] none c292
def c293 : C := rs 0 (qF 2^qe) <| rs 3 (qm 0^qk .eql 0^yo^qm 0^qc 292^zo 2^qv 2^qe) .ret
def F293 : F := mF 1 [.t 2] none c293
def c298 : C := rs 0 (qB 2 0^qF 3^qe) <| rs 4 (qf 1 2^qJ 2^qr 2 0^qC 171 (ls [1,3])^qn^qv 3^qe) .ret
def F298 : F := mF 2 [.t 3] none c298
def c299 : C := rs 0 (qF 4^qe) <| rs 5 (qm 0^qm 1^qd 315^qk .geq 0^qv 4^qe) .ret
def F299 : F := mF 2 [.t 4] none c299
def l300_1 : C := .loop [] [] [] [] (lq 14 (qm 6^qr 2 5^qm 5^qi 2^qg 1^qj^qh false^qQ .lss 0^qe) 22 2 <| sq (bk 3 (rt 25 (qb 3 3^qr 2 5^qm 5^qi 2^qg 1^qj^qm 6^qi 5^qg 0^qJ 3^q3 (.call (.k 6) .no none [.l 0,.l 10])^qe) <| cd 36 (rs 0 (qF 4^qe) .ret) .skip)) <| r1 23 (qm 6^qk .add 1^qv 6^qe))
def l300_0 : C := .loop [] [] [] [] (lq 7 (qm 5^qr 2 5^qh false^qQ .lss 0^qe) 11 0 <| sq (bk 1 (rs 0 (qz 6 0^qe) <| bk 2 l300_1)) <| r1 12 (qm 5^qk .add 1^qv 5^qe))
def c300 : C := rs 0 (qB 2 0^qB 3 1^qF 4^qe) <| sq (rs 0 (qz 5 0^qe) <| bk 0 l300_0) <| rs 0 (qT 4^qe) .ret
def F300 : F := mF 2 [.t 4] none c300
def c301 : C := rs 0 (qB 2 0^qB 3 1^qF 4^qe) <| rs 5 (qr 2 5^q1 (.fn 316 [.g 3] [3])^qd 299^qn^qv 4^qe) .ret
def F301 : F := mF 2 [.t 4] none c301
def c304 : C := rs 0 (qB 2 0^qB 3 1^qG 4 z_6^qe) <| rs 8 (qb 2 5^qr 3 0^q1 (.call (.k 314) .borrow none [.l 0,.l 2])^q2 7 (.mov (.l 3))^qx 0^qy 1^qw 5^qw 6^qe) <| rs 14 (qr 2 0^q1 (.call (.k 307) .freeze (some 0) [.l 1])^qf 2 0^qs 2 1 3 2^qe) <| sq (rs 18 (q3 (.mov (.g 6))^qe) <| cd 18 (r1 19 (qr 2 0^qm 5^qb 3 17^q1 (.iad 17 (.l 1) (.l 2))^q5 (.store (.e 16) 17 (.l 4) (.l 3))^qe)) <| r1 24 (qr 2 0^qm 5^qb 3 17^q1 (.mks 17 1 z_8 [(0,.l 3)])^q1 (.ins 317 16 17 (.l 1) (.l 2) (.l 4))^qf 2 0^qs 2 1 6 5^qe)) <| rs 31 (qb 2 5^qt 4 5 0^qe) .ret
def F304 : F := mF 2 [.cell 4 (some 5)] none c304
def c312 : C := rs 0 (qB 5 2^qG 6 z_1^qF 7^qe) <| i1 10 (qm 0^qc 203^qN^qe) 12 (rs 13 (q1 (.build z_1 [])^qt 6 5 0^qF 7^qe) .ret) <| rs 15 (qm 0^qm 1^qd 220^q2 14 (.mov (.l 2))^qx 0^qy 1^qw 8^qw 9^qe) <| i1 20 (qm 9^qN^qe) 21 (rs 22 (q1 (.build z_1 [])^qt 6 5 0^qF 7^qe) .ret) <| rt 23 (qm 0^qm 8^qi 2^qg 1^qj^qb 5 3^qd 10^qx 0^qy 1^qt 6 5 7^qw 7^qe) .ret
def F312 : F := mF 3 [.cell 6 (some 5),.t 7] none c312
def c313 : C := rs 0 (qF 3^qe) <| rs 4 (qm 0^q1 (.load (.c) none (.g 1))^qq .lss 0^yo^qm 0^qk .gtr 1099511627776^zo 3^qv 3^qe) .ret
def F313 : F := mF 2 [.t 3] none c313
def c314 : C := rs 0 (qB 2 0^qz 4 0^qF 5^qe) <| rs 6 (qr 2 0^qm 1^qC 319 [.l 1,.l 2,.f 320]^qx 0^qy 1^qw 4^qw 5^qe) .ret
def F314 : F := mF 2 [.t 4,.t 5] none c314
def l315_0 : C := .loop [] [] [] [] (rs 9 (q3 (.bin .lss (.g 8) (.g 7))^qe) <| sq (cd 9 .skip <| .exit 0) <| sq (bk 1 (rs 10 (qm 8^qv 5^qe) <| rs 11 (qm 1^qm 0^qm 5^qi 2^qJ 2^q3 (.call (.v (.l 0)) .no none [.l 4])^qe) <| cd 16 (rs 17 (qm 5^qv 4^qe) .ret) .skip)) <| r1 18 (q1 (.bin .add (.g 8) (ci 1))^qv 8^qe))
def c315 : C := rs 0 (qz 4 0^qe) <| sq (rs 6 (qm 0^qH false^q3 (.mov (ci 0))^qe) <| bk 0 l315_0) <| rs 0 (qz 4 (-1)^qe) .ret
def F315 : F := mF 2 [.t 4] none c315
def c316 : C := rs 0 (qB 2 0^qF 3^qe) <| rt 4 (qr 2 1^qr 2 1^qh false^qk .sub 1^q1 (.iad 5 (.l 1) (.l 5))^qg 0^qJ 3^q1 (.load (.c) (some 3) (.g 1))^qd 15^qk .gtr 0^qv 3^qe) .ret
def F316 : F := mF 2 [.t 3] none c316
def l319_0 : C := .loop [] [] [] [] (lq 15 (qm 9^qm 10^qQ .lss 0^qe) 17 0 <| bk 1 (rs 18 (qm 9^qm 10^qq .add 0^q1 (.conv (.int .u64) (.l 2))^q1 (.sh .shr (.l 3) (.c (.int .u64 1)))^q1 (.conv (.int .i64) (.l 4))^qv 11^qe) <| rs 24 (qm 2^qm 0^qm 11^qi 17^qJ 17^qm 1^q1 (.call (.v (.l 0)) .no none [.l 4,.l 5])^qK .lss 0^qe) <| cd 31 (r1 32 (qm 11^qk .add 1^qv 9^qe)) <| r1 34 (qm 11^qv 10^qe)))
def c319 : C := rs 0 (qz 6 0^qF 7^qe) <| rs 12 (qm 0^qh false^qv 8^qe) <| rs 14 (qm 8^qz 9 0^qw 10^qe) <| sq (bk 0 l319_0) <| rs 35 (qm 9^qm 9^qm 8^qq .lss 1^ya^qm 2^qm 0^qm 9^qi 17^qJ 17^qm 1^q1 (.call (.v (.l 5)) .no none [.l 9,.l 10])^qk .eql 0^za 4^qV 6 0^qw 7^qe) .ret
def F319 : F := mF 3 [.t 6,.t 7] none c319
def c320 : C := rs 0 (qB 2 0^qz 4 0^qe) <| rs 5 (qr 2 0^qm 1^qq .sub 1^qv 4^qe) .ret
def F320 : F := mF 2 [.t 4] none c320
attribute [go_sem] c240 F240 c244 F244 r245_10 c245 F245 c246 F246 c249 F249 c284 F284 c285 F285 c287 F287 c288 F288 c289 F289 c290 F290 c292 F292 c293 F293 c298 F298 c299 F299 c300 F300 c301 F301 c304 F304 c312 F312 c313 F313 c314 F314 c315 F315 c316 F316 c319 F319 c320 F320
def c339 : C := rs 0 (qB 1 0^qF 2^qe) <| rs 3 (qf 1 25^qg 6^ql 1^qh false^qk .leq 40^ya^qr 1 34^qh false^qk .leq 40^za 5^ya^qr 1 35^qh false^qk .leq 40^za 11^ya^qr 1 12^qh true^qk .leq 8192^za 17^qv 2^qe) .ret
def F339 : F := mF 1 [.t 2] none c339
def c341 : C := rs 0 (qB 1 0^qF 2^qe) <| i1 3 (qr 1 0^qk .lss 1^yo^qr 1 0^qk .gtr 37^zo 3^yo^qf 1 25^qg 0^ql 1^qk .lss 0^zo 8^yo^qf 1 25^qg 0^ql 1^qk .gtr 16^zo 14^yo^qf 1 25^qg 6^ql 1^qh false^qk .gtr 8^zo 20^yo^qr 1 34^qh false^qk .gtr 8^zo 27^yo^qr 1 35^qh false^qk .gtr 8^zO 33^qe) 41 (rs 0 (qF 2^qe) .ret) <| i1 42 (qb 1 36^qc 366^q3 (.call (.k 67) .no none [.l 1,.f 367])^qe) 44 (rs 0 (qF 2^qe) .ret) <| rs 45 (qR 1 9 3^qc 28^ya^qf 1 13^qg 7^q1 (.load (.v 1) (some 3) (.l 5))^qc 28^za 3^ya^qf 1 25^qg 1^q1 (.load (.v 1) (some 3) (.l 11))^qc 28^za 9^qv 2^qe) .ret
def F341 : F := mF 1 [.t 2] none c341
def c345 : C := rs 0 (qS 2 1^qe) <| i1 3 (qm 0^qc 368^qN^qe) 5 (rs 0 (qS 2 1^qe) .ret) <| rs 6 (qm 0^qm 0^qk .rem 3^qk .add 1^q1 (.mks 1 2 [.int .i64 0] [(0,.l 0),(1,.l 3)])^qv 2^qe) .ret
def F345 : F := mF 1 [.t 2] none c345
def l360_0 : C := .loop [] [] [] [] (lq 11 (qm 5^qm 0^qh false^qQ .lss 0^qe) 14 0 <| sq (bk 1 (rt 17 (qm 0^qm 5^qi 36^qJ 36^qm 1^qm 5^qi 36^qJ 36^qC 372 (ls [3,7])^qN^qe) <| cd 26 (rs 0 (qF 4^qe) .ret) .skip)) <| r1 15 (qm 5^qk .add 1^qv 5^qe))
def c360 : C := rs 0 (qF 4^qe) <| i1 6 (qm 0^qh false^qm 1^qh false^qQ .neq 1^qe) 10 (rs 0 (qF 4^qe) .ret) <| sq (rs 0 (qz 5 0^qe) <| bk 0 l360_0) <| rs 0 (qT 4^qe) .ret
def F360 : F := mF 2 [.t 4] none c360
def l366_0 : C := .loop [] [] [5] [] (rs 41 (q3 (.bin .lss (.g 40) (.g 39))^qe) <| sq (cd 41 .skip <| .exit 0) <| sq (bk 1 (rs 42 (q1 (.iad 5 (.g 38) (.g 40))^qJ 5^qG 5 z_0^qs 5 5 2 1^qe) <| r1 44 (qm 3^qr 5 2^qr 5 3^qr 5 4^q1 (.mks 1 3 [.int .i64 0] [(0,.l 2),(1,.l 4),(2,.l 6)])^q1 (.app 36 1 (.l 0) (.l 7))^qv 3^qe))) <| r1 53 (q1 (.bin .add (.g 40) (ci 1))^qv 40^qe))
def c366 : C := rs 0 (qB 1 0^qS 2 1^qe) <| rs 6 (qr 1 0^qr 1 1^qr 1 2^qr 1 3^qr 1 4^qr 1 5^qr 1 6^qr 1 7^qr 1 8^qf 1 13^qg 0^ql 1^qf 1 13^qg 1^ql 1^qf 1 13^qg 2^ql 1^qf 1 13^qg 11^ql 1^q1 (.mkb 1 13 [.int .i64 0] [(0,.l 1),(1,.l 3),(2,.l 5),(3,.l 7),(4,.l 9),(5,.l 11),(6,.l 13),(7,.l 15),(8,.l 17),(9,.l 20),(10,.l 23),(11,.l 26),(12,.l 29)])^qv 3^qe) <| sq (rs 37 (qf 1 34^q3 (.load (.v 1) none (.l 0))^qH false^q3 (.mov (ci 0))^qe) <| bk 0 l366_0) <| rs 54 (qm 3^qr 1 35^q1 (.app 36 1 (.l 0) (.l 2))^qv 2^qe) .ret
def F366 : F := mF 1 [.t 2] none c366
def c367 : C := rs 0 (qF 2^qe) <| rs 3 (qm 0^qk .lss 0^yo^qm 0^qk .gtr 1099511627776^zo 2^qv 2^qe) .ret
def F367 : F := mF 1 [.t 2] none c367
def c368 : C := rs 0 (qF 2^qe) <| rs 3 (qm 0^qk .geq 1^ya^qm 0^qk .leq 3^za 2^qv 2^qe) .ret
def F368 : F := mF 1 [.t 2] none c368
def l372_0 : C := .loop [] [] [] [] (lq 13 (qm 5^qr 2 35^qh false^qQ .lss 0^qe) 17 0 <| sq (bk 1 (rt 20 (qr 2 35^qm 5^qi 1^qj^qr 3 35^qm 5^qi 1^qj^qQ .neq 4^qe) <| cd 30 (rs 0 (qF 4^qe) .ret) .skip)) <| r1 18 (qm 5^qk .add 1^qv 5^qe))
def c372 : C := rs 0 (qB 2 0^qB 3 1^qF 4^qe) <| i1 6 (qr 2 35^qh false^qr 3 35^qh false^qQ .neq 2^qe) 12 (rs 0 (qF 4^qe) .ret) <| sq (rs 0 (qz 5 0^qe) <| bk 0 l372_0) <| rs 31 (qr 2 0^qr 3 0^qq .eql 1^ya^qr 2 1^qr 3 1^qq .eql 7^za 5^ya^qr 2 2^qr 3 2^qq .eql 14^za 12^ya^qr 2 3^qr 3 3^qq .eql 21^za 19^ya^qr 2 4^qr 3 4^qq .eql 28^za 26^ya^qr 2 5^qr 3 5^qq .eql 35^za 33^ya^qr 2 6^qr 3 6^qq .eql 42^za 40^ya^qr 2 7^qr 3 7^qq .eql 49^za 47^ya^qr 2 8^qr 3 8^qq .eql 56^za 54^ya^qR 2 9 3^qR 3 9 3^q1 (.eqa false [.i,.i,.i] (.l 63) (.l 65))^za 61^ya^qr 2 12^qr 3 12^qq .eql 70^za 68^ya^qR 2 13 12^qR 3 13 12^q1 (.eqa false [.i,.i,.i,.s,.s,.b,.s,.i,.i,.i,.s,.i] (.l 77) (.l 79))^za 75^ya^qR 2 25 9^qR 3 25 9^qC 101 (ls [84,86])^za 82^ya^qr 2 34^qr 3 34^qC 153 (ls [91,93])^za 89^qv 4^qe) .ret
def F372 : F := mF 2 [.t 4] none c372
attribute [go_sem] c339 F339 c341 F341 c345 F345 c360 F360 c366 F366 c367 F367 c368 F368 c372 F372
def l395_0 : C := .loop [] [] [8] [] (lq 19 (qm 5^qK .leq 3^qe) 20 0 <| sq (bk 1 (rs 24 (qm 5^q1 (.call (.k 397) .freeze none [.l 0])^q1 (.call (.k 401) .borrow none [.l 1])^q2 23 (.mov (.l 2))^qx 0^qy 1^qw 6^qD 7^q1 (.mov (.l 5))^qe) <| rs 30 (qm 0^qm 5^q1 (.call (.k 345) .freeze none [.l 1])^qm 6^q1 (.call (.k 43) .freeze none [.l 0,.l 2,.l 3])^q2 29 (.mov (.l 4))^qx 0^qy 1^qG 8 z_3^qs 8 7 8 6^qV 9 7^qe) <| rs 37 (qm 9^qK .eql 0^qe) <| cd 38 (r1 39 (qr 4 1^qm 5^qb 8 7^q1 (.build z_9 [(0,1,.l 2),(1,7,.l 3)])^q1 (.mks 9 1 z_9 [(0,.l 4)])^q1 (.app 45 9 (.l 1) (.l 5))^qf 4 1^qs 4 1 7 6^qe)) .skip)) <| r1 21 (qm 5^qk .add 1^qv 5^qe))
def c395 : C := rs 0 (qG 2 z_10^qz 3 0^qe) <| i1 10 (qm 0^qk .lss 1^yo^qm 0^qk .gtr 3^zO 2^qe) 15 (rs 16 (q1 (.build z_10 [])^qt 2 2 0^qz 3 1^qe) .ret) <| rs 17 (qm 0^q1 (.build [.int .i64 0,.nslice 9] [(0,1,.l 0)])^qG 4 z_11^qs 4 2 2 1^qe) <| sq (rs 0 (qz 5 1^qe) <| bk 0 l395_0) <| rs 47 (qb 4 2^qt 2 2 0^qz 3 0^qe) .ret
def F395 : F := mF 1 [.cell 2 (some 2),.t 3] none c395
def c397 : C := rs 0 (qG 2 z_6^qe) <| i1 3 (qm 0^qK .neq 1^qe) 4 (rs 5 (q1 (.build z_6 [])^qt 2 5 0^qe) .ret) <| rs 6 (q1 (.build z_8 [(0,1,.c (.int .i64 1)),(1,1,.c (.int .i64 1)),(4,1,.c (.int .i64 1))])^q1 (.mks 17 1 z_8 [(0,.l 0)])^q1 (.build z_6 [(0,1,.l 1)])^qt 2 5 2^qe) .ret
def F397 : F := mF 1 [.cell 2 (some 5)] none c397
def l398_0 : C := .loop [] [] [5] [] (rs 13 (q3 (.bin .lss (.g 12) (.g 11))^qe) <| sq (cd 13 .skip <| .exit 0) <| sq (bk 1 (rs 14 (q1 (.iad 9 (.g 10) (.g 12))^qJ 9^qG 5 z_9^qs 5 9 2 1^qe) <| r1 16 (qr 3 1^qr 5 0^qR 5 1 7^qr 5 8^q1 (.build z_9 [(0,1,.l 3),(1,7,.l 5),(8,1,.l 7)])^q1 (.mks 9 1 z_9 [(0,.l 8)])^q1 (.app 26 9 (.l 1) (.l 9))^qf 3 1^qs 3 1 11 10^qe))) <| r1 28 (q1 (.bin .add (.g 12) (ci 1))^qv 12^qe))
def c398 : C := rs 0 (qB 1 0^qG 2 z_10^qe) <| rs 6 (qr 1 0^q1 (.build [.int .i64 0,.nslice 9] [(0,1,.l 1)])^qG 3 z_11^qs 3 2 3 2^qe) <| sq (rs 9 (qf 1 1^q3 (.load (.v 1) none (.l 0))^qH false^q3 (.mov (ci 0))^qe) <| bk 0 l398_0) <| rs 29 (qb 3 2^qt 2 2 0^qe) .ret
def F398 : F := mF 1 [.cell 2 (some 2)] none c398
def l399_0 : C := .loop [] [] [] [] (lq 20 (qm 5^qr 2 1^qh false^qQ .lss 0^qe) 24 0 <| sq (bk 1 (rt 27 (qr 2 1^qm 5^qi 9^qg 0^qj^qr 3 1^qm 5^qi 9^qg 0^qj^qq .neq 5^yo^qr 2 1^qm 5^qi 9^qg 1^qJ 7^qr 3 1^qm 5^qi 9^qg 1^qJ 7^qC 45 (ls [19,25])^qn^zo 13^yo^qr 2 1^qm 5^qi 9^qg 8^qj^qr 3 1^qm 5^qi 9^qg 8^qj^qC 360 (ls [35,41])^qn^zO 29^qe) <| cd 71 (rs 0 (qF 4^qe) .ret) .skip)) <| r1 25 (qm 5^qk .add 1^qv 5^qe))
def c399 : C := rs 0 (qB 2 0^qB 3 1^qF 4^qe) <| i1 6 (qr 2 0^qr 3 0^qq .neq 1^yo^qr 2 1^qh false^qr 3 1^qh false^qq .neq 8^zO 5^qe) 19 (rs 0 (qF 4^qe) .ret) <| sq (rs 0 (qz 5 0^qe) <| bk 0 l399_0) <| rs 0 (qT 4^qe) .ret
def F399 : F := mF 2 [.t 4] none c399
def l401_0 : C := .loop [] [4,0,10400] [6] [20200] (rs 25 (q3 (.bin .lss (.g 24) (.g 23))^qe) <| sq (cd 25 .skip <| .exit 0) <| sq (bk 1 (rs 26 (q1 (.iad 17 (.g 22) (.g 24))^qJ 17^qG 6 z_8^qs 6 17 2 1^qe) <| r1 28 (qb 6 17^q1 (.rcall 423 [.g 4,.l 0] 0 4 20200)^qe))) <| r1 30 (q1 (.bin .add (.g 24) (ci 1))^qv 24^qe))
def c401 : C := rs 0 (qB 1 0^qE 2^qz 3 0^qe) <| i1 7 (qb 1 5^qc 249^qN^qe) 9 (rs 0 (qE 2^qz 3 1^qe) .ret) <| rs 4 (q3 (.allo [.nslice 1] 10400)^qe) <| rs 10 (qR 1 1 3^q1 (.mks 3 1 z_12 [(0,.l 1)])^q1 (.rcall 421 [.g 4,.l 2] 0 4 20000)^qe) <| rs 14 (qr 1 4^qr 1 0^qh false^q1 (.mks 1 2 [.int .i64 0] [(0,.l 1),(1,.l 4)])^q1 (.rcall 422 [.g 4,.l 5] 0 4 20100)^qe) <| sq (rs 21 (qf 1 0^q3 (.load (.v 1) none (.l 0))^qH false^q3 (.mov (ci 0))^qe) <| bk 0 l401_0) <| rs 31 (qr 4 0^q1 (.b2s (.l 1))^qv 2^qz 3 0^qe) .ret
def F401 : F := mF 1 [.t 2,.t 3] none c401
def l404_1 : C := .loop [] [] [] [] (lq 54 (qm 5^qr 4 8^qh false^qQ .lss 0^qe) 58 2 <| sq (bk 3 (rs 61 (qr 4 8^qm 5^qi 36^qJ 36^qc 339^qN^qe) <| cd 67 (rs 0 (qF 2^qe) .ret) .skip)) <| r1 59 (qm 5^qk .add 1^qv 5^qe))
def l404_0 : C := .loop [] [] [4] [] (lq 10 (qm 3^qr 1 1^qh false^qQ .lss 0^qe) 14 0 <| sq (bk 1 (rs 17 (qr 1 1^qm 3^qi 9^qJ 9^qG 4 z_9^qs 4 9 5 4^qe) <| i1 22 (qr 4 8^qh false^qk .gtr 10^yo^qf 4 1^qg 2^ql 4^qh false^qk .gtr 40^zo 4^yo^qf 4 1^qg 6^ql 4^qh false^qk .gtr 40^zo 11^yo^qf 4 1^qg 4^ql 4^qh true^qk .gtr 8192^zo 18^yo^qf 4 1^qg 5^ql 4^qh true^qk .gtr 8192^zO 25^qe) 53 (rs 0 (qF 2^qe) .ret) <| rs 0 (qz 5 0^qe) <| bk 2 l404_1)) <| r1 15 (qm 3^qk .add 1^qv 3^qe))
def c404 : C := rs 0 (qB 1 0^qF 2^qe) <| i1 6 (qr 1 1^qh false^qK .gtr 6^qe) 9 (rs 0 (qF 2^qe) .ret) <| sq (rs 0 (qz 3 0^qe) <| bk 0 l404_0) <| rs 0 (qT 2^qe) .ret
def F404 : F := mF 1 [.t 2] none c404
def l405_1 : C := .loop [] [] [] [] (lq 100 (qm 9^qr 4 8^qh false^qQ .lss 0^qe) 104 2 <| sq (bk 3 (rt 107 (qr 4 8^qm 9^qi 36^qJ 36^qc 414^qn^yo^qr 4 8^qm 9^qi 36^qg 1^qj^qr 1 0^qq .neq 13^zO 7^qe) <| cd 124 (rs 0 (qF 2^qe) .ret) .skip)) <| r1 105 (qm 9^qk .add 1^qv 9^qe))
def r405_17 : List Op := (qm 3^qk .add 1^qv 3^qe) 23 0 none
def l405_0 : C := .loop [] [] [4,5,7] [] (lq 18 (qm 3^qr 1 1^qh false^qQ .lss 0^qe) 22 0 <| sq (bk 1 (rs 25 (qr 1 1^qm 3^qi 9^qJ 9^qG 4 z_9^qs 4 9 5 4^qe) <| rs 31 (qf 4 1^qg 4^ql 4^qc 425^q2 30 (.mov (.l 3))^qx 0^qy 1^qD 5^q1 (.alloc z_6)^qs 5 5 7 5^q3 (.mov (.l 6))^qe) <| rs 38 (qf 4 1^qg 5^ql 4^qc 425^q2 37 (.mov (.l 3))^qx 0^qy 1^qD 7^q1 (.alloc z_6)^qs 7 5 7 5^q3 (.mov (.l 6))^qe) <| i2 44 (qr 4 0^qk .lss 1^yo^qr 4 0^qk .gtr 3^zo 3^yo^qm 3^qk .gtr 0^ya^qr 1 1^qm 3^qk .sub 1^q1 (.iad 9 (.l 13) (.l 15))^qg 0^qj^qr 4 0^qq .geq 18^y0 8^qa 11^zo 8^yo^qf 4 1^qg 0^ql 4^qr 1 0^qq .neq 27^zo 24^yo^qR 4 1 7^qc 37^qn^zo 32^yo^qm 6^qn^zo 38^yo^qm 8^qn^zO 42^qe) 89 (rs 0 (qF 2^qe) .ret) <| i1 90 (qr 4 8^qh false^qk .gtr 0^ya^qR 4 1 7^qc 426^qn^zA 4^qe) 99 (rs 0 (qF 2^qe) .ret) <| rs 0 (qz 9 0^qe) <| bk 2 l405_1)) <| .region false r405_17)
def r405_18 : List Op := (qT 2^qe) 0 0 none
def c405 : C := rs 0 (qB 1 0^qF 2^qe) <| i1 10 (qr 1 0^qk .lss 1^yo^qr 1 0^qk .gtr 3^zO 3^qe) 17 (rs 0 (qF 2^qe) .ret) <| sq (rs 0 (qz 3 0^qe) <| bk 0 l405_0) <| sq (.region false r405_18) .ret
def F405 : F := mF 1 [.t 2] none c405
def l408_0 : C := .loop [] [] [5] [] (rs 10 (q3 (.bin .lss (.g 9) (.g 8))^qe) <| sq (cd 10 .skip <| .exit 0) <| sq (bk 1 (rs 11 (q1 (.iad 9 (.g 7) (.g 9))^qJ 9^qG 5 z_9^qs 5 9 2 1^qe) <| i1 13 (qr 5 0^qm 3^qq .leq 1^yo^qr 5 0^qc 368^qn^zo 4^yo^qf 5 1^qg 0^ql 5^qr 1 0^qq .neq 13^zo 10^yo^qR 5 1 7^qc 39^qn^zo 18^yo^qf 5 1^qg 4^ql 5^qc 430^qn^zo 24^yo^qf 5 1^qg 5^ql 5^qc 430^qn^zO 31^qe) 50 (rs 0 (qF 2^qe) .ret) <| i1 51 (qr 5 8^qh false^qk .gtr 0^ya^qR 5 1 7^qc 41^qn^za 4^yo^qr 5 8^q1 (.fn 431 [.g 1] [1])^qd 432^zO 10^qe) 66 (rs 0 (qF 2^qe) .ret) <| r1 67 (qr 5 0^qv 3^qe))) <| r1 69 (q1 (.bin .add (.g 9) (ci 1))^qv 9^qe))
def c408 : C := rs 0 (qB 1 0^qF 2^qe) <| rs 0 (qz 3 0^qe) <| sq (rs 6 (qf 1 1^q3 (.load (.v 1) none (.l 0))^qH false^q3 (.mov (ci 0))^qe) <| bk 0 l408_0) <| rs 70 (qr 1 0^qk .geq 1^ya^qr 1 0^qk .leq 3^za 3^qv 2^qe) .ret
def F408 : F := mF 1 [.t 2] none c408
def l411_0 : C := .loop [] [] [] [] (lq 19 (qm 7^qm 6^qq .lss 0^ya^qm 4^q1 (.nilc (.l 4))^qg 1^ql 10^qn^zA 3^qe) 28 0 <| sq (bk 1 (r2 31 (qr 5 0^qm 4^q1 (.rcall 436 [.l 2] 0 10 20300)^q1 (.mks 17 1 z_8 [(0,.l 3)])^q1 (.app 36 17 (.l 1) (.l 4))^qf 5 0^qs 5 1 6 5^qe))) <| r1 29 (qm 7^qk .add 1^qv 7^qe))
def c411 : C := rs 0 (qG 2 z_6^qF 3^qe) <| rs 8 (qm 0^q1 (.build z_13 [(0,1,.l 0)])^q1 (.box (.l 1))^qv 4^qe) <| rs 11 (qm 4^q1 (.rcall 434 [.l 0] 0 10 20000)^q1 (.build [.nslice 17,.int .i64 0,.int .i64 0,.int .i64 0,.int .i64 0] [(1,3,.l 1)])^qG 5 z_14^qs 5 5 3 2^qe) <| rs 14 (qm 4^q1 (.rcall 435 [.l 0] 0 10 20100)^qf 5 4^qs 5 1 2 1^qe) <| rs 17 (qm 4^q1 (.rcall 435 [.l 0] 0 10 20200)^qv 6^qe) <| sq (rs 0 (qz 7 0^qe) <| bk 0 l411_0) <| i1 38 (qm 4^q1 (.nilc (.l 0))^qg 1^ql 10^yo^qb 5 5^q1 (.call (.k 246) .borrow none [.l 5])^qn^zo 4^yo^qb 5 5^q1 (.call (.k 424) .borrow none [.l 10])^qm 0^qq .neq 11^zO 9^qe) 52 (rs 53 (q1 (.build z_6 [])^qt 2 5 0^qF 3^qe) .ret) <| rs 54 (qb 5 5^qt 2 5 0^qT 3^qe) .ret
def F411 : F := mF 1 [.cell 2 (some 5),.t 3] none c411
def c413 : C := rs 0 (qB 3 0^qB 5 2^qG 6 z_10^qS 7 36^qe) <| i1 14 (qb 3 2^qc 408^qn^yo^qb 5 36^qc 341^qn^zo 3^yo^qm 1^qk .lss 0^zo 8^yo^qm 1^qk .gtr 1099511627776^zo 12^yo^qr 5 2^qr 3 0^qq .neq 18^zO 16^qe) 36 (rs 37 (qb 3 2^qt 6 2 0^qS 7 36^qe) .ret) <| sq (rs 38 (qf 5 0^q3 (.load (.v 5) none (.l 0))^qe) <| bk 0 (sq (rs 41 (q1 (.bin .eql (.g 39) (ci 35))^qv 40^qe) <| cd 40 .skip <| rs 42 (q1 (.bin .eql (.g 39) (ci 36))^qv 40^qe) <| cd 40 .skip <| r1 43 (q1 (.bin .eql (.g 39) (ci 37))^qv 40^qe)) <| cd 40 (rs 44 (qb 3 2^qb 5 36^qd 437^qx 0^qy 1^qt 6 2 3^qw 7^qe) .ret) <| rs 50 (q1 (.bin .eql (.g 39) (ci 33))^qv 49^qe) <| cd 49 (rs 51 (qb 3 2^qb 5 36^qd 438^qx 0^qy 1^qt 6 2 3^qw 7^qe) .ret) .skip)) <| rs 57 (qb 3 2^qr 5 7^qC 427 (ls [0,2])^q2 56 (.mov (.l 3))^qx 0^qy 1^qG 8 z_9^qs 8 9 7 5^qV 9 6^qe) <| i1 63 (qm 9^qn^yo^qR 8 1 7^qc 40^qn^zO 2^qe) 70 (i1 71 (qr 5 0^qK .eql 1^qe) 73 (rt 74 (qb 3 2^qb 3 2^qb 5 36^q1 (.build z_7 [(0,1,.c (.int .i64 10))])^qC 439 (ls [1,2,3])^q1 (.mks 36 1 z_15 [(0,.l 4)])^qt 6 2 0^qw 7^qe) .ret) <| rs 80 (qb 3 2^qt 6 2 0^qS 7 36^qe) .ret) <| i1 81 (qR 8 1 7^q3 (.call (.k 41) .no none [.l 1])^qe) 83 (rs 84 (qb 3 2^qt 6 2 0^qS 7 36^qe) .ret) <| rs 86 (qf 8 1^qg 4^ql 8^qc 428^q2 85 (.mov (.l 3))^qx 0^qy 1^qG 10 z_6^qs 10 5 7 5^qD 11^q1 (.mov (.l 6))^qe) <| sq (rs 92 (qf 5 0^q3 (.load (.v 5) none (.l 0))^qe) <| bk 1 (rs 95 (q1 (.bin .eql (.g 93) (ci 1))^qv 94^qe) <| cd 94 (rs 96 (qb 3 2^qb 8 9^qb 10 5^qm 1^qb 5 36^qC 440 (ls [0,1,2,3,4])^qx 0^qy 1^qt 6 2 6^qw 7^qe) .ret) <| rs 105 (q1 (.bin .eql (.g 93) (ci 14))^qv 104^qe) <| cd 104 (rt 106 (qb 3 2^qb 3 2^qb 10 5^qb 5 36^qC 441 (ls [1,2,3])^qt 6 2 0^qw 7^qe) .ret) <| rs 112 (q1 (.bin .eql (.g 93) (ci 30))^qv 111^qe) <| cd 111 (i1 113 (qR 5 9 3^qR 10 1 3^qC 15 (ls [1,3])^qK .leq 0^qe) 118 (rt 119 (qb 3 2^qr 3 0^qr 5 7^qR 10 1 3^q1 (.build z_15 [(0,1,.c (.int .i64 31)),(1,1,.l 2),(7,1,.l 4),(9,3,.l 6)])^q1 (.mks 36 1 z_15 [(0,.l 7)])^qt 6 2 0^qw 7^qe) .ret) <| rt 128 (qb 3 2^qb 8 9^qb 10 5^qR 5 9 3^qC 261 (ls [2,4])^qr 3 0^qr 5 7^qR 5 9 3^q1 (.build z_15 [(0,1,.c (.int .i64 31)),(1,1,.l 7),(7,1,.l 9),(9,3,.l 11)])^q1 (.mks 36 1 z_15 [(0,.l 12)])^qC 442 (ls [0,1,5,13])^qx 0^qy 1^qt 6 2 15^qw 7^qe) .ret) <| rs 146 (q1 (.bin .eql (.g 93) (ci 32))^qv 145^qe) <| cd 145 (rs 147 (qb 3 2^qb 8 9^qb 10 5^qb 5 36^qC 443 (ls [0,1,2,3])^qx 0^qy 1^qt 6 2 5^qw 7^qe) .ret) .skip)) <| rs 155 (qb 3 2^qb 10 5^qb 5 36^qC 444 (ls [0,1,2])^q2 154 (.mov (.l 3))^qx 0^qy 1^qY 4 2^qG 12 z_6^qG 13 z_15^qs 12 5 8 5^qs 13 36 9 6^qV 9 7^qe) <| i1 162 (qm 9^qN^qe) 163 (rs 164 (qb 3 2^qt 6 2 0^qS 7 36^qe) .ret) <| rt 165 (qr 3 0^qr 5 7^qf 13 1^qs 13 1 4 1^qf 13 7^qs 13 1 6 3^qe) <| rs 171 (qb 3 2^qb 8 9^qb 12 5^qb 13 36^q1 (.mks 36 1 z_15 [(0,.l 3)])^qC 442 (ls [0,1,2,4])^qx 0^qy 1^qt 6 2 6^qw 7^qe) .ret
def F413 : F := mF 3 [.cell 6 (some 2),.t 7] none c413
def l414_0 : C := .loop [] [] [] [] (lq 118 (qm 3^qr 1 34^qh false^qQ .lss 0^qe) 122 0 <| sq (bk 1 (rs 125 (qr 1 34^qm 3^qi 5^qg 2^qj^qc 445^qn^yo^qr 1 34^qm 3^qi 5^qg 3^qj^qc 445^qn^zo 8^yo^qr 1 34^qm 3^qi 5^qg 4^qj^qc 445^qn^zO 18^qe) <| cd 152 (rs 0 (qF 2^qe) .ret) .skip)) <| r1 123 (qm 3^qk .add 1^qv 3^qe))
def l414_1 : C := .loop [] [] [] [] (lq 153 (qm 4^qr 1 35^qh false^qQ .lss 0^qe) 157 2 <| sq (bk 3 (rs 160 (qr 1 35^qm 4^qi 1^qj^qc 445^qN^qe) <| cd 166 (rs 0 (qF 2^qe) .ret) .skip)) <| r1 158 (qm 4^qk .add 1^qv 4^qe))
def c414 : C := rs 0 (qB 1 0^qF 2^qe) <| i1 5 (qr 1 0^qk .lss 1^yo^qr 1 0^qk .gtr 37^zo 3^yo^qf 1 25^qg 0^ql 1^qk .lss 0^zo 8^yo^qf 1 25^qg 0^ql 1^qk .gtr 16^zo 14^yo^qf 1 25^qg 6^ql 1^qh false^qk .gtr 8^zo 20^yo^qr 1 34^qh false^qk .gtr 8^zo 27^yo^qr 1 35^qh false^qk .gtr 8^zO 33^qe) 43 (rs 0 (qF 2^qe) .ret) <| i1 44 (qr 1 1^qc 445^qn^yo^qr 1 2^qc 445^qn^zo 4^yo^qr 1 3^qc 445^qn^zo 10^yo^qr 1 4^qc 445^qn^zo 16^yo^qr 1 5^qc 445^qn^zo 22^yo^qr 1 6^qc 445^qn^zo 28^yo^qr 1 7^qc 445^qn^zo 34^yo^qr 1 8^qc 445^qn^zo 40^yo^qf 1 13^qg 0^ql 1^qc 445^qn^zo 46^yo^qf 1 13^qg 1^ql 1^qc 445^qn^zo 53^yo^qf 1 13^qg 2^ql 1^qc 445^qn^zo 60^yo^qf 1 13^qg 11^ql 1^qc 445^qn^zO 67^qe) 117 (rs 0 (qF 2^qe) .ret) <| sq (rs 0 (qz 3 0^qe) <| bk 0 l414_0) <| sq (rs 0 (qz 4 0^qe) <| bk 2 l414_1) <| rs 167 (qR 1 9 3^qc 24^ya^qf 1 13^qg 7^q1 (.load (.v 1) (some 3) (.l 5))^qc 24^za 3^ya^qf 1 25^qg 1^q1 (.load (.v 1) (some 3) (.l 11))^qc 24^za 9^qv 2^qe) .ret
def F414 : F := mF 1 [.t 2] none c414
def l421_0 : C := .loop [] [0,0,9000] [5] [] (rs 11 (q3 (.bin .lss (.g 10) (.g 9))^qe) <| sq (cd 11 .skip <| .exit 0) <| sq (bk 1 (rs 12 (q1 (.iad 3 (.g 8) (.g 10))^qJ 3^qG 5 z_12^qs 5 3 2 1^qe) <| rs 15 (qb 5 3^qc 455^q2 14 (.mov (.l 1))^qx 0^qy 1^qw 6^qD 7^q1 (.mov (.l 4))^qe) <| r1 19 (qm 0^qm 0^q1 (.nilc (.l 1))^qg 0^ql 0^qm 6^q1 (.appd 1 (.l 4) (.l 5))^q1 (.nilc (.l 0))^qg 0^qs 0 1 8 6^qe))) <| r1 28 (q1 (.bin .add (.g 10) (ci 1))^qv 10^qe))
def c421 : C := rs 8 (q3 (.mov (.g 1))^qH false^q3 (.mov (ci 0))^qe) <| bk 0 l421_0
def F421 : F := mF 2 [] none c421
def l422_0 : C := .loop [] [0,0,9000] [] [] (rs 11 (q3 (.bin .lss (.g 10) (.g 9))^qe) <| sq (cd 11 .skip <| .exit 0) <| sq (bk 1 (rs 12 (q1 (.iad 1 (.g 8) (.g 10))^qj^qv 5^qe) <| rs 15 (qm 5^qc 456^q2 14 (.mov (.l 1))^qx 0^qy 1^qw 6^qD 7^q1 (.mov (.l 4))^qe) <| r1 19 (qm 0^qm 0^q1 (.nilc (.l 1))^qg 0^ql 0^qm 6^q1 (.appd 1 (.l 4) (.l 5))^q1 (.nilc (.l 0))^qg 0^qs 0 1 8 6^qe))) <| r1 28 (q1 (.bin .add (.g 10) (ci 1))^qv 10^qe))
def c422 : C := rs 8 (q3 (.mov (.g 1))^qH false^q3 (.mov (ci 0))^qe) <| bk 0 l422_0
def F422 : F := mF 2 [] none c422
def l423_1 : C := .loop [] [0,0,9000] [7] [20600,20700,20800] (rs 71 (q3 (.bin .lss (.g 70) (.g 69))^qe) <| sq (cd 71 .skip <| .exit 2) <| sq (bk 3 (rs 72 (q1 (.iad 5 (.g 68) (.g 70))^qJ 5^qG 7 z_1^qs 7 5 2 1^qe) <| rs 74 (qm 0^qR 7 0 3^q1 (.mks 3 1 z_12 [(0,.l 2)])^q1 (.rcall 421 [.l 0,.l 3] 0 0 20600)^qe) <| rs 79 (qm 0^qr 7 3^q1 (.rcall 458 [.l 0,.l 2] 0 0 20700)^qe) <| r1 83 (qm 0^qr 7 4^q1 (.mks 1 1 [.str []] [(0,.l 2)])^q1 (.rcall 457 [.l 0,.l 3] 0 0 20800)^qe))) <| r1 88 (q1 (.bin .add (.g 70) (ci 1))^qv 70^qe))
def l423_0 : C := .loop [] [0,0,9000] [5,7] [20400,20500,20600,20700,20800] (rs 53 (q3 (.bin .lss (.g 52) (.g 51))^qe) <| sq (cd 53 .skip <| .exit 0) <| sq (bk 1 (rs 54 (q1 (.iad 2 (.g 50) (.g 52))^qJ 2^qG 5 z_5^qs 5 2 2 1^qe) <| rs 56 (qm 0^qr 5 0^q1 (.mks 1 1 [.str []] [(0,.l 2)])^q1 (.rcall 457 [.l 0,.l 3] 0 0 20400)^qe) <| rs 61 (qm 0^qr 5 1^qh false^q1 (.mks 1 1 [.int .i64 0] [(0,.l 3)])^q1 (.rcall 422 [.l 0,.l 4] 0 0 20500)^qe) <| rs 67 (qf 5 1^q3 (.load (.v 5) none (.l 0))^qH false^q3 (.mov (ci 0))^qe) <| bk 2 l423_1)) <| r1 89 (q1 (.bin .add (.g 52) (ci 1))^qv 52^qe))
def l423_2 : C := .loop [] [0,0,9000] [9] [21000,21100,21200,21300] (rs 100 (q3 (.bin .lss (.g 99) (.g 98))^qe) <| sq (cd 100 .skip <| .exit 4) <| sq (bk 5 (rs 101 (q1 (.iad 11 (.g 97) (.g 99))^qJ 11^qG 9 z_2^qs 9 11 2 1^qe) <| rs 103 (qm 0^qr 9 0^qr 9 1^qf 9 2^qg 0^ql 9^q1 (.mks 1 3 [.int .i64 0] [(0,.l 2),(1,.l 4),(2,.l 7)])^q1 (.rcall 422 [.l 0,.l 8] 0 0 21000)^qe) <| rs 113 (qm 0^qf 9 2^qg 1^q1 (.load (.v 9) (some 3) (.l 2))^q1 (.mks 3 1 z_12 [(0,.l 3)])^q1 (.rcall 421 [.l 0,.l 4] 0 0 21100)^qe) <| rs 119 (qm 0^qf 9 2^qg 4^ql 9^q1 (.rcall 458 [.l 0,.l 3] 0 0 21200)^qe) <| r1 124 (qm 0^qf 9 2^qg 5^ql 9^q1 (.mks 1 1 [.str []] [(0,.l 3)])^q1 (.rcall 457 [.l 0,.l 4] 0 0 21300)^qe))) <| r1 130 (q1 (.bin .add (.g 99) (ci 1))^qv 99^qe))
def c423 : C := rs 0 (qB 3 1^qe) <| rs 10 (qm 0^qr 3 0^qr 3 1^qr 3 4^qr 3 13^qr 3 14^qr 3 15^qr 3 16^q1 (.mks 1 7 [.int .i64 0] [(0,.l 2),(1,.l 4),(2,.l 6),(3,.l 8),(4,.l 10),(5,.l 12),(6,.l 14)])^q1 (.rcall 422 [.l 0,.l 15] 0 0 20000)^qe) <| rs 27 (qm 0^qf 3 2^qg 0^ql 3^qf 3 2^qg 1^ql 3^q1 (.mks 1 2 [.str []] [(0,.l 3),(1,.l 6)])^q1 (.rcall 457 [.l 0,.l 7] 0 0 20100)^qe) <| rs 36 (qm 0^qR 3 6 3^qR 3 9 3^q1 (.mks 3 2 z_12 [(0,.l 2),(1,.l 4)])^q1 (.rcall 421 [.l 0,.l 5] 0 0 20200)^qe) <| rs 43 (qm 0^qr 3 5^qh false^q1 (.mks 1 1 [.int .i64 0] [(0,.l 3)])^q1 (.rcall 422 [.l 0,.l 4] 0 0 20300)^qe) <| sq (rs 49 (qf 3 5^q3 (.load (.v 3) none (.l 0))^qH false^q3 (.mov (ci 0))^qe) <| bk 0 l423_0) <| rs 90 (qm 0^qr 3 12^qh false^q1 (.mks 1 1 [.int .i64 0] [(0,.l 3)])^q1 (.rcall 422 [.l 0,.l 4] 0 0 20900)^qe) <| rs 96 (qf 3 12^q3 (.load (.v 3) none (.l 0))^qH false^q3 (.mov (ci 0))^qe) <| bk 4 l423_2
def F423 : F := mF 2 [] none c423
def l424_0 : C := .loop [] [] [] [] (lq 17 (qm 4^qr 1 0^qh false^qQ .lss 0^qe) 21 0 <| sq (bk 1 (r1 24 (qm 3^qr 1 0^qm 4^qi 17^qJ 17^qc 461^qq .add 0^qv 3^qe))) <| r1 22 (qm 4^qk .add 1^qv 4^qe))
def c424 : C := rs 0 (qB 1 0^qE 2^qe) <| rt 5 (qR 1 1 3^qc 459^qr 1 4^qc 460^qq .add 2^qr 1 0^qh false^qc 460^qq .add 6^qv 3^qe) <| sq (rs 0 (qz 4 0^qe) <| bk 0 l424_0) <| rs 32 (qm 3^qv 2^qe) .ret
def F424 : F := mF 1 [.t 2] none c424
def c425 : C := rs 0 (qG 2 z_6^qF 3^qe) <| rs 4 (qm 0^qc 411^qx 0^qy 1^qt 2 5 2^qw 3^qe) .ret
def F425 : F := mF 1 [.cell 2 (some 5),.t 3] none c425
def c426 : C := rs 0 (qB 1 0^qF 2^qe) <| rs 3 (qb 1 7^qc 38^ya^qb 1 7^qc 42^qn^za 2^qv 2^qe) .ret
def F426 : F := mF 1 [.t 2] none c426
def c427 : C := rs 0 (qB 2 0^qB 3 1^qG 4 z_9^qF 5^qe) <| rs 7 (qr 2 1^q1 (.fn 462 [.g 3] [3])^qd 463^qv 6^qe) <| i1 11 (qm 6^qK .lss 0^qe) 12 (rs 13 (q1 (.load (.v 3) none (.g 3))^qr 2 0^q1 (.build z_3 [(0,1,.l 2)])^q1 (.build z_9 [(0,1,.l 0),(1,7,.l 3)])^qt 4 9 4^qF 5^qe) .ret) <| rs 18 (qr 2 1^qm 6^qi 9^qJ 9^qt 4 9 4^qT 5^qe) .ret
def F427 : F := mF 2 [.cell 4 (some 9),.t 5] none c427
def l428_0 : C := .loop [] [] [] [] (rs 17 (q3 (.bin .lss (.g 16) (.g 15))^qe) <| sq (cd 17 .skip <| .exit 0) <| sq (bk 1 (r2 18 (qr 5 0^qm 4^q1 (.rcall 467 [.l 2] 0 8 20300)^q1 (.mks 17 1 z_8 [(0,.l 3)])^q1 (.app 23 17 (.l 1) (.l 4))^qf 5 0^qs 5 1 6 5^qe))) <| r1 25 (q1 (.bin .add (.g 16) (ci 1))^qv 16^qe))
def c428 : C := rs 0 (qG 2 z_6^qz 3 0^qe) <| rs 6 (qm 0^q1 (.build z_13 [(0,1,.l 0)])^q1 (.box (.l 1))^qv 4^qe) <| rs 9 (qm 4^q1 (.rcall 464 [.l 0] 0 8 20000)^qm 4^q1 (.rcall 465 [.l 2] 0 8 20100)^q1 (.build [.nslice 17,.int .i64 0,.int .i64 0,.int .i64 0,.int .i64 0] [(1,3,.l 1),(4,1,.l 3)])^qG 5 z_14^qs 5 5 5 4^qe) <| sq (rs 14 (qm 4^q3 (.rcall 466 [.l 0] 0 8 20200)^q3 (.mov (ci 0))^qe) <| bk 0 l428_0) <| i1 26 (qm 4^q1 (.nilc (.l 0))^qg 1^ql 8^yo^qm 4^q1 (.nilc (.l 5))^qg 0^ql 8^q1 (.bin .neq (.l 8) (.c (.str [])))^zo 4^yo^qb 5 5^q1 (.call (.k 249) .borrow none [.l 12])^qn^zO 11^qe) 41 (rs 42 (q1 (.build z_6 [])^qt 2 5 0^qz 3 3^qe) .ret) <| rs 43 (qb 5 5^qt 2 5 0^qz 3 0^qe) .ret
def F428 : F := mF 1 [.cell 2 (some 5),.t 3] none c428
def l429_0 : C := .loop [] [] [7] [] (rs 11 (q3 (.bin .lss (.g 10) (.g 9))^qe) <| sq (cd 11 .skip <| .exit 0) <| sq (bk 1 (rs 12 (q1 (.iad 7 (.g 8) (.g 10))^qJ 7^qG 7 z_4^qs 7 7 2 1^qe) <| r1 14 (qm 5^qr 7 0^q1 (.bin .add (ci 35) (.l 2))^qk .sub 1^qr 7 1^qr 7 2^qm 0^qr 7 3^qr 7 4^qr 7 5^qr 7 6^q1 (.build z_15 [(0,1,.l 4),(1,1,.l 6),(2,1,.l 8),(7,1,.l 9),(4,1,.l 11),(8,1,.l 13),(35,1,.l 15),(12,1,.l 17)])^q1 (.mks 36 1 z_15 [(0,.l 18)])^q1 (.app 5 36 (.l 0) (.l 19))^qv 5^qe))) <| r1 35 (q1 (.bin .add (.g 10) (ci 1))^qv 10^qe))
def c429 : C := rs 0 (qS 4 36^qe) <| rs 5 (q3 (.mko 36)^qe) <| sq (rs 8 (q3 (.mov (.g 1))^qH false^q3 (.mov (ci 0))^qe) <| bk 0 l429_0) <| rs 36 (qm 5^qv 4^qe) .ret
def F429 : F := mF 2 [.t 4] (some 0) c429
def c430 : C := rs 0 (qF 2^qe) <| rs 6 (qm 0^qc 428^q2 5 (.mov (.l 1))^qx 0^qy 1^qD 3^q1 (.alloc z_6)^qs 3 5 5 3^q3 (.mov (.l 4))^qe) <| rs 10 (qm 4^qk .eql 0^qv 2^qe) .ret
def F430 : F := mF 1 [.t 2] none c430
def c431 : C := rs 0 (qB 2 0^qF 3^qe) <| rs 4 (qb 2 36^qc 341^qn^yo^qr 2 1^qf 1 0^qj^qq .neq 5^zo 3^qv 3^qe) .ret
def F431 : F := mF 2 [.t 3] none c431
def c432 : C := rs 0 (qF 4^qe) <| rs 5 (qm 0^qm 1^qd 468^qk .geq 0^qv 4^qe) .ret
def F432 : F := mF 2 [.t 4] none c432
def c434 : C := rs 0 (qG 2 z_12^qe) <| rs 7 (qm 0^q1 (.nilc (.l 0))^qg 0^ql 0^qc 469^q2 6 (.mov (.l 4))^qx 0^qy 1^qY 5 2^qG 3 z_12^qs 3 3 9 6^qV 4 7^qV 5 8^qe) <| rs 15 (qm 0^qm 0^q1 (.nilc (.l 1))^qg 1^ql 0^yo^qm 5^qk .neq 0^zo 5^q1 (.nilc (.l 0))^qg 1^qs 0 1 10 8^qe) <| rs 26 (qm 0^qm 4^q1 (.nilc (.l 0))^qg 0^qs 0 1 3 1^qe) <| rs 30 (qb 3 3^qt 2 3 0^qe) .ret
def F434 : F := mF 1 [.cell 2 (some 3)] none c434
def c435 : C := rs 0 (qz 2 0^qe) <| rs 7 (qm 0^q1 (.nilc (.l 0))^qg 0^ql 0^qc 470^q2 6 (.mov (.l 4))^qx 0^qy 1^qY 5 2^qV 3 6^qV 4 7^qV 5 8^qe) <| rs 15 (qm 0^qm 0^q1 (.nilc (.l 1))^qg 1^ql 0^yo^qm 5^qk .neq 0^zo 5^q1 (.nilc (.l 0))^qg 1^qs 0 1 10 8^qe) <| rs 26 (qm 0^qm 4^q1 (.nilc (.l 0))^qg 0^qs 0 1 3 1^qe) <| rs 30 (qm 3^qv 2^qe) .ret
def F435 : F := mF 1 [.t 2] none c435
def l436_1 : C := .loop [] [] [9] [] (lq 66 (qm 8^qm 7^qq .lss 0^ya^qm 0^q1 (.nilc (.l 4))^qg 1^ql 0^qn^zA 3^qe) 75 2 <| sq (bk 3 (rs 78 (qm 0^q1 (.rcall 434 [.l 0] 0 0 21400)^q1 (.build z_1 [(0,3,.l 1)])^qG 9 z_1^qs 9 5 3 2^qe) <| rs 81 (qm 0^q1 (.rcall 472 [.l 0] 0 0 21500)^qf 9 3^qs 9 1 2 1^qe) <| rs 84 (qm 0^q1 (.rcall 471 [.l 0] 0 0 21600)^qf 9 4^qs 9 1 2 1^qe) <| r1 87 (qr 6 1^qb 9 5^q1 (.mks 5 1 z_1 [(0,.l 2)])^q1 (.app 91 5 (.l 1) (.l 3))^qf 6 1^qs 6 1 5 4^qe))) <| r1 76 (qm 8^qk .add 1^qv 8^qe))
def l436_0 : C := .loop [] [] [6,9] [91] (lq 49 (qm 5^qm 4^qq .lss 0^ya^qm 0^q1 (.nilc (.l 4))^qg 1^ql 0^qn^zA 3^qe) 58 0 <| sq (bk 1 (rs 61 (qm 0^q1 (.rcall 471 [.l 0] 0 0 21200)^q1 (.build [.str [],.nslice 5] [(0,1,.l 1)])^qG 6 z_16^qs 6 2 3 2^qe) <| rs 64 (qm 0^q1 (.rcall 435 [.l 0] 0 0 21300)^qv 7^qe) <| sq (rs 0 (qz 8 0^qe) <| bk 2 l436_1) <| r1 93 (qr 3 5^q1 (.ldf 91 6 2 (.g 6))^q1 (.mks 2 1 z_5 [(0,.l 2)])^q1 (.app 97 2 (.l 1) (.l 3))^qf 3 5^qs 3 1 5 4^qe))) <| r1 59 (qm 5^qk .add 1^qv 5^qe))
def l436_2 : C := .loop [] [] [11] [] (lq 101 (qm 10^qm 4^qq .lss 0^ya^qm 0^q1 (.nilc (.l 4))^qg 1^ql 0^qn^zA 3^qe) 110 4 <| sq (bk 5 (rs 113 (qm 0^q1 (.rcall 435 [.l 0] 0 0 21800)^q1 (.build z_2 [(0,1,.l 1)])^qG 11 z_2^qs 11 11 3 2^qe) <| rs 116 (qm 0^q1 (.rcall 435 [.l 0] 0 0 21900)^qf 11 1^qs 11 1 2 1^qe) <| rs 119 (qm 0^q1 (.rcall 435 [.l 0] 0 0 22000)^qf 11 2^qg 0^qs 11 1 3 1^qe) <| rs 123 (qm 0^q1 (.rcall 434 [.l 0] 0 0 22100)^qf 11 2^qg 1^qs 11 3 3 1^qe) <| rs 127 (qm 0^q1 (.rcall 472 [.l 0] 0 0 22200)^qf 11 2^qg 4^qs 11 1 3 1^qe) <| rs 131 (qm 0^q1 (.rcall 471 [.l 0] 0 0 22300)^qf 11 2^qg 5^qs 11 1 3 1^qe) <| r1 135 (qr 3 12^qb 11 11^q1 (.mks 11 1 z_2 [(0,.l 2)])^q1 (.app 139 11 (.l 1) (.l 3))^qf 3 12^qs 3 1 5 4^qe))) <| r1 111 (qm 10^qk .add 1^qv 10^qe))
def c436 : C := rs 0 (qG 2 z_8^qe) <| rs 12 (qm 0^q1 (.rcall 435 [.l 0] 0 0 20000)^q1 (.build [.int .i64 0,.int .i64 0,.str [],.str [],.int .i64 0,.nslice 2,.int .i64 0,.int .i64 0,.int .i64 0,.int .i64 0,.int .i64 0,.int .i64 0,.nslice 11,.int .i64 0,.int .i64 0,.int .i64 0,.int .i64 0] [(0,1,.l 1)])^qG 3 z_17^qs 3 17 3 2^qe) <| rs 15 (qm 0^q1 (.rcall 435 [.l 0] 0 0 20100)^qf 3 1^qs 3 1 2 1^qe) <| rs 18 (qm 0^q1 (.rcall 435 [.l 0] 0 0 20200)^qf 3 4^qs 3 1 2 1^qe) <| rs 21 (qm 0^q1 (.rcall 435 [.l 0] 0 0 20300)^qf 3 13^qs 3 1 2 1^qe) <| rs 24 (qm 0^q1 (.rcall 435 [.l 0] 0 0 20400)^qf 3 14^qs 3 1 2 1^qe) <| rs 27 (qm 0^q1 (.rcall 435 [.l 0] 0 0 20500)^qf 3 15^qs 3 1 2 1^qe) <| rs 30 (qm 0^q1 (.rcall 435 [.l 0] 0 0 20600)^qf 3 16^qs 3 1 2 1^qe) <| rs 33 (qm 0^q1 (.rcall 471 [.l 0] 0 0 20700)^qf 3 2^qg 0^qs 3 1 3 1^qe) <| rs 37 (qm 0^q1 (.rcall 471 [.l 0] 0 0 20800)^qf 3 2^qg 1^qs 3 1 3 1^qe) <| rs 41 (qm 0^q1 (.rcall 434 [.l 0] 0 0 20900)^qf 3 6^qs 3 3 2 1^qe) <| rs 44 (qm 0^q1 (.rcall 434 [.l 0] 0 0 21000)^qf 3 9^qs 3 3 2 1^qe) <| rs 47 (qm 0^q1 (.rcall 435 [.l 0] 0 0 21100)^qv 4^qe) <| sq (rs 0 (qz 5 0^qe) <| bk 0 l436_0) <| rs 99 (qm 0^q1 (.rcall 435 [.l 0] 0 0 21700)^qv 4^qe) <| sq (rs 0 (qz 10 0^qe) <| bk 4 l436_2) <| rs 141 (qb 3 17^qt 2 17 0^qe) .ret
def F436 : F := mF 1 [.cell 2 (some 17)] none c436
def c439 : C := rs 0 (qB 3 0^qB 4 1^qB 5 2^qG 6 z_15^qe) <| rs 7 (qr 3 0^qr 4 1^qr 4 7^qf 4 13^qg 0^ql 4^qf 4 13^qg 1^ql 4^q1 (.build z_18 [(0,1,.l 8),(1,1,.l 11)])^qb 5 9^q1 (.build z_15 [(0,1,.c (.int .i64 2)),(1,1,.l 1),(2,1,.l 3),(7,1,.l 5),(13,12,.l 12),(25,9,.l 13)])^qt 6 36 14^qe) .ret
def F439 : F := mF 3 [.cell 6 (some 36)] none c439
def c440 : C := rs 0 (qB 5 0^qB 6 1^qB 7 2^qB 9 4^qG 10 z_10^qS 11 36^qe) <| rs 18 (qR 7 1 3^qG 12 z_12^qs 12 3 2 1^qe) <| rs 20 (qr 5 0^qf 12 2^qs 12 1 2 1^qe) <| rs 24 (qb 12 3^q1 (.build z_12 [(0,3,.l 0)])^qm 3^qd 474^q2 23 (.mov (.l 3))^qx 0^qy 1^qY 4 2^qD 13^q1 (.alloc z_12)^q3 (.alloc z_12)^qs 13 3 8 5^qs 14 3 9 6^q3 (.mov (.l 7))^qe) <| i1 31 (qm 15^qK .neq 0^qe) 32 (rt 33 (qb 5 2^qb 5 2^qb 9 36^qm 15^q1 (.build z_7 [(0,1,.l 3)])^qC 439 (ls [1,2,4])^q1 (.mks 36 1 z_15 [(0,.l 5)])^qt 10 2 0^qw 11^qe) .ret) <| rs 41 (qb 7 5^qr 9 3^qr 9 4^qR 9 13 12^qb 14 3^qm 3^qC 240 (ls [0,2,4,6,7,8])^q2 40 (.mov (.l 9))^qx 0^qy 1^qG 16 z_6^qG 17 z_7^qs 16 5 13 11^qs 17 9 14 12^qe) <| i1 53 (qr 17 0^qk .neq 0^ya^qr 17 0^qk .neq 15^zA 3^qe) 60 (rt 61 (qb 5 2^qb 5 2^qb 9 36^qb 17 9^qC 439 (ls [1,2,3])^q1 (.mks 36 1 z_15 [(0,.l 4)])^qt 10 2 0^qw 11^qe) .ret) <| rt 67 (qb 5 2^qb 6 9^qb 16 5^qb 5 2^qb 9 36^qb 17 9^qC 439 (ls [3,4,5])^q1 (.mks 36 1 z_15 [(0,.l 6)])^qC 442 (ls [0,1,2,7])^qx 0^qy 1^qt 10 2 9^qw 11^qe) .ret
def F440 : F := mF 5 [.cell 10 (some 2),.t 11] none c440
def c442 : C := rs 0 (qB 4 0^qB 5 1^qB 6 2^qG 8 z_10^qS 9 36^qe) <| rs 17 (qb 6 5^qc 401^q2 16 (.mov (.l 1))^qx 0^qy 1^qw 10^qD 11^q1 (.mov (.l 4))^qe) <| rs 22 (qR 5 1 7^qm 10^qd 47^q2 21 (.mov (.l 3))^qx 0^qy 1^qY 4 2^qG 12 z_3^qs 12 7 8 5^qV 13 6^qV 14 7^qe) <| i1 29 (qm 14^qK .neq 0^qe) 30 (rs 31 (qb 4 2^qt 8 2 0^qS 9 36^qe) .ret) <| rs 32 (qr 5 0^qm 13^q1 (.call (.k 429) .no (some 0) [.l 1,.l 2])^qv 15^qe) <| rs 36 (qb 12 7^qm 3^qf 5 1^qs 5 7 2 0^qf 5 8^qs 5 1 4 1^qe) <| i1 40 (qb 12 7^qc 41^qN^qe) 42 (r1 43 (qm 15^qm 3^q1 (.app 35 36 (.l 0) (.l 1))^qv 15^qf 5 8^q5 (.store (.v 5) 1 (.l 4) (.c (.slice 36 [])))^qe)) <| rs 47 (qb 4 2^qb 5 9^qd 473^qm 15^qt 8 2 2^qw 9^qe) .ret
def F442 : F := mF 4 [.cell 8 (some 2),.t 9] none c442
def c445 : C := rs 0 (qF 2^qe) <| rs 3 (qm 0^qk .geq 0^ya^qm 0^qk .leq 1099511627776^za 2^qv 2^qe) .ret
def F445 : F := mF 1 [.t 2] none c445
def c455 : C := rs 0 (qB 1 0^qE 2^qz 3 0^qe) <| i1 4 (qb 1 3^qc 28^qN^qe) 6 (rs 0 (qE 2^qz 3 1^qe) .ret) <| rs 7 (qr 1 0^qr 1 1^qr 1 2^q1 (.mks 1 3 [.int .i64 0] [(0,.l 1),(1,.l 3),(2,.l 5)])^qc 483^qx 0^qy 1^qw 2^qw 3^qe) .ret
def F455 : F := mF 1 [.t 2,.t 3] none c455
def l456_0 : C := .loop [] [] [] [] (lq 7 (qm 0^qK .geq 128^qe) 8 0 <| bk 1 (rs 9 (qm 4^qm 0^q1 (.conv (.int .u8) (.l 1))^q1 (.bin .or (.l 2) (.c (.int .u8 128)))^q1 (.mks 1 1 [.int .u8 0] [(0,.l 3)])^q1 (.app 4 1 (.l 0) (.l 4))^qv 4^qe) <| r1 15 (qm 0^q1 (.sh .shr (.l 0) (.c (.int .u64 7)))^qv 0^qe)))
def c456 : C := rs 0 (qE 2^qz 3 0^qe) <| i1 5 (qm 0^qK .lss 0^qe) 6 (rs 0 (qE 2^qz 3 1^qe) .ret) <| rs 4 (q3 (.mko 1)^qe) <| sq (bk 0 l456_0) <| rs 17 (qm 4^qm 0^q1 (.conv (.int .u8) (.l 1))^q1 (.mks 1 1 [.int .u8 0] [(0,.l 2)])^q1 (.app 4 1 (.l 0) (.l 3))^q1 (.b2s (.l 4))^qv 2^qz 3 0^qe) .ret
def F456 : F := mF 1 [.t 2,.t 3] none c456
def l457_0 : C := .loop [] [0,0,9000] [] [] (rs 9 (q3 (.bin .lss (.g 8) (.g 7))^qe) <| sq (cd 9 .skip <| .exit 0) <| sq (bk 1 (rs 10 (q1 (.iad 1 (.g 6) (.g 8))^qj^qv 5^qe) <| r2 12 (qm 0^qm 0^q1 (.nilc (.l 1))^qg 0^ql 0^qm 5^qc 484^q1 (.appd 1 (.l 4) (.l 6))^q1 (.nilc (.l 0))^qg 0^qs 0 1 9 7^qe))) <| r1 22 (q1 (.bin .add (.g 8) (ci 1))^qv 8^qe))
def c457 : C := rs 6 (q3 (.mov (.g 1))^qH false^q3 (.mov (ci 0))^qe) <| bk 0 l457_0
def F457 : F := mF 2 [] none c457
def c458 : C := r2 4 (qm 0^qm 0^q1 (.nilc (.l 1))^qg 0^ql 0^qm 1^qc 485^q1 (.appd 1 (.l 4) (.l 6))^q1 (.nilc (.l 0))^qg 0^qs 0 1 9 7^qe)
def F458 : F := mF 2 [] none c458
def c459 : C := rs 0 (qB 1 0^qE 2^qe) <| rs 3 (qb 1 3^qc 486^qv 2^qe) .ret
def F459 : F := mF 1 [.t 2] none c459
def c460 : C := rs 0 (qE 2^qe) <| rs 6 (qm 0^qc 487^q2 5 (.mov (.l 1))^qx 0^qy 1^qw 3^qD 4^q1 (.mov (.l 4))^qe) <| rs 10 (qm 3^qv 2^qe) .ret
def F460 : F := mF 1 [.t 2] none c460
def l461_1 : C := .loop [] [] [] [] (lq 81 (qm 6^qr 5 1^qh false^qQ .lss 0^qe) 85 2 <| sq (bk 3 (r2 88 (qm 3^qr 5 1^qm 6^qi 5^qg 0^qJ 3^qc 459^qq .add 0^qr 5 1^qm 6^qi 5^qg 3^qj^qc 489^qq .add 8^qr 5 1^qm 6^qi 5^qg 4^qj^qc 488^qq .add 16^qv 3^qe))) <| r1 86 (qm 6^qk .add 1^qv 6^qe))
def l461_0 : C := .loop [] [] [5] [] (lq 59 (qm 4^qr 1 5^qh false^qQ .lss 0^qe) 63 0 <| sq (bk 1 (rs 66 (qr 1 5^qm 4^qi 2^qJ 2^qG 5 z_5^qs 5 2 5 4^qe) <| rt 71 (qm 3^qr 5 0^qc 488^qq .add 0^qr 5 1^qh false^qc 460^qq .add 4^qv 3^qe) <| rs 0 (qz 6 0^qe) <| bk 2 l461_1)) <| r1 64 (qm 4^qk .add 1^qv 4^qe))
def l461_2 : C := .loop [] [] [8] [] (lq 119 (qm 7^qr 1 12^qh false^qQ .lss 0^qe) 123 4 <| sq (bk 5 (rs 126 (qr 1 12^qm 7^qi 11^qJ 11^qG 8 z_2^qs 8 11 5 4^qe) <| r2 131 (qm 3^qr 8 0^qc 460^qq .add 0^qr 8 1^qc 460^qq .add 4^qf 8 2^qg 0^ql 8^qc 460^qq .add 8^qf 8 2^qg 1^q1 (.load (.v 8) (some 3) (.l 15))^qc 459^qq .add 13^qf 8 2^qg 4^ql 8^qc 489^qq .add 18^qf 8 2^qg 5^ql 8^qc 488^qq .add 23^qv 3^qe))) <| r1 124 (qm 7^qk .add 1^qv 7^qe))
def c461 : C := rs 0 (qB 1 0^qE 2^qe) <| rt 9 (qr 1 0^qc 460^qr 1 1^qc 460^qq .add 2^qr 1 4^qc 460^qq .add 6^qr 1 13^qc 460^qq .add 10^qr 1 14^qc 460^qq .add 14^qr 1 15^qc 460^qq .add 18^qr 1 16^qc 460^qq .add 22^qf 1 2^qg 0^ql 1^qc 488^qq .add 26^qf 1 2^qg 1^ql 1^qc 488^qq .add 31^qR 1 6 3^qc 459^qq .add 36^qR 1 9 3^qc 459^qq .add 40^qr 1 5^qh false^qc 460^qq .add 44^qv 3^qe) <| sq (rs 0 (qz 4 0^qe) <| bk 0 l461_0) <| rs 113 (qm 3^qr 1 12^qh false^qc 460^qq .add 0^qv 3^qe) <| sq (rs 0 (qz 7 0^qe) <| bk 4 l461_2) <| rs 160 (qm 3^qv 2^qe) .ret
def F461 : F := mF 1 [.t 2] none c461
def c462 : C := rs 0 (qB 2 0^qF 3^qe) <| rs 4 (qr 2 0^q1 (.load (.c) none (.g 1))^qq .eql 1^qv 3^qe) .ret
def F462 : F := mF 2 [.t 3] none c462
def l463_0 : C := .loop [] [] [] [] (rs 9 (q3 (.bin .lss (.g 8) (.g 7))^qe) <| sq (cd 9 .skip <| .exit 0) <| sq (bk 1 (rs 10 (qm 8^qv 5^qe) <| rs 11 (qm 1^qm 0^qm 5^qi 9^qJ 9^q3 (.call (.v (.l 0)) .no none [.l 4])^qe) <| cd 16 (rs 17 (qm 5^qv 4^qe) .ret) .skip)) <| r1 18 (q1 (.bin .add (.g 8) (ci 1))^qv 8^qe))
def c463 : C := rs 0 (qz 4 0^qe) <| sq (rs 6 (qm 0^qH false^q3 (.mov (ci 0))^qe) <| bk 0 l463_0) <| rs 0 (qz 4 (-1)^qe) .ret
def F463 : F := mF 2 [.t 4] none c463
def c464 : C := rs 0 (qG 2 z_12^qe) <| rs 7 (qm 0^q1 (.nilc (.l 0))^qg 0^ql 0^qc 490^q2 6 (.mov (.l 4))^qx 0^qy 1^qY 5 2^qG 3 z_12^qs 3 3 9 6^qV 4 7^qV 5 8^qe) <| i1 15 (qm 0^q1 (.nilc (.l 0))^qg 1^ql 0^yo^qm 5^qk .neq 0^zO 4^qe) 22 (rs 23 (qm 0^q1 (.nilc (.l 0))^qg 1^q5 (.store (.v 0) 1 (.l 2) (cb true))^qe) <| rs 26 (q1 (.build z_12 [])^qt 2 3 0^qe) .ret) <| rs 27 (qm 0^qm 4^q1 (.nilc (.l 0))^qg 0^qs 0 1 3 1^qe) <| rs 31 (qb 3 3^qt 2 3 0^qe) .ret
def F464 : F := mF 1 [.cell 2 (some 3)] none c464
def c465 : C := rs 0 (qz 2 0^qe) <| rs 7 (qm 0^q1 (.nilc (.l 0))^qg 0^ql 0^qc 491^q2 6 (.mov (.l 4))^qx 0^qy 1^qY 5 2^qV 3 6^qV 4 7^qV 5 8^qe) <| i1 15 (qm 0^q1 (.nilc (.l 0))^qg 1^ql 0^yo^qm 5^qk .neq 0^zO 4^qe) 22 (rs 23 (qm 0^q1 (.nilc (.l 0))^qg 1^q5 (.store (.v 0) 1 (.l 2) (cb true))^qe) <| rs 0 (qz 2 0^qe) .ret) <| rs 26 (qm 0^qm 4^q1 (.nilc (.l 0))^qg 0^qs 0 1 3 1^qe) <| rs 30 (qm 3^qv 2^qe) .ret
def F465 : F := mF 1 [.t 2] none c465
def c466 : C := rs 0 (qz 2 0^qe) <| rs 4 (qm 0^q1 (.rcall 465 [.l 0] 0 0 20000)^qv 3^qe) <| i1 6 (qm 3^qm 0^q1 (.nilc (.l 1))^qg 0^ql 0^qh true^qQ .gtr 0^qe) 12 (rs 13 (qm 0^q1 (.nilc (.l 0))^qg 1^q5 (.store (.v 0) 1 (.l 2) (cb true))^qe) <| rs 0 (qz 2 0^qe) .ret) <| rs 16 (qm 3^qv 2^qe) .ret
def F466 : F := mF 1 [.t 2] none c466
def l467_1 : C := .loop [] [] [] [] (rs 51 (q3 (.bin .lss (.g 50) (.g 49))^qe) <| sq (cd 51 .skip <| .exit 2) <| sq (bk 3 (r2 52 (qr 4 1^qm 0^q1 (.rcall 464 [.l 2] 0 0 21400)^qm 0^q1 (.rcall 493 [.l 4] 0 0 21500)^qm 0^q1 (.rcall 492 [.l 6] 0 0 21600)^q1 (.build z_1 [(0,3,.l 3),(3,1,.l 5),(4,1,.l 7)])^q1 (.mks 5 1 z_1 [(0,.l 8)])^q1 (.app 62 5 (.l 1) (.l 9))^qf 4 1^qs 4 1 11 10^qe))) <| r1 64 (q1 (.bin .add (.g 50) (ci 1))^qv 50^qe))
def l467_0 : C := .loop [] [] [4] [62] (rs 44 (q3 (.bin .lss (.g 43) (.g 42))^qe) <| sq (cd 44 .skip <| .exit 0) <| sq (bk 1 (rs 45 (qm 0^q1 (.rcall 492 [.l 0] 0 0 21200)^q1 (.build [.str [],.nslice 5] [(0,1,.l 1)])^qG 4 z_16^qs 4 2 3 2^qe) <| sq (rs 48 (qm 0^q3 (.rcall 466 [.l 0] 0 0 21300)^q3 (.mov (ci 0))^qe) <| bk 2 l467_1) <| r1 65 (qr 3 5^q1 (.ldf 62 4 2 (.g 4))^q1 (.mks 2 1 z_5 [(0,.l 2)])^q1 (.app 69 2 (.l 1) (.l 3))^qf 3 5^qs 3 1 5 4^qe))) <| r1 71 (q1 (.bin .add (.g 43) (ci 1))^qv 43^qe))
def l467_2 : C := .loop [] [] [5] [] (rs 75 (q3 (.bin .lss (.g 74) (.g 73))^qe) <| sq (cd 75 .skip <| .exit 4) <| sq (bk 5 (rs 76 (qm 0^q1 (.rcall 465 [.l 0] 0 0 21800)^qm 0^q1 (.rcall 465 [.l 2] 0 0 21900)^q1 (.build z_2 [(0,1,.l 1),(1,1,.l 3)])^qG 5 z_2^qs 5 11 5 4^qe) <| rs 81 (qm 0^q1 (.rcall 465 [.l 0] 0 0 22000)^qm 0^q1 (.rcall 464 [.l 2] 0 0 22100)^qm 0^q1 (.rcall 493 [.l 4] 0 0 22200)^qm 0^q1 (.rcall 492 [.l 6] 0 0 22300)^q1 (.build z_7 [(0,1,.l 1),(1,3,.l 3),(4,1,.l 5),(5,1,.l 7)])^qf 5 2^qs 5 9 9 8^qe) <| r1 91 (qr 3 12^qb 5 11^q1 (.mks 11 1 z_2 [(0,.l 2)])^q1 (.app 95 11 (.l 1) (.l 3))^qf 3 12^qs 3 1 5 4^qe))) <| r1 97 (q1 (.bin .add (.g 74) (ci 1))^qv 74^qe))
def c467 : C := rs 0 (qG 2 z_8^qe) <| rs 0 (qG 3 z_17^qe) <| rs 6 (qm 0^q1 (.rcall 465 [.l 0] 0 0 20000)^qm 0^q1 (.rcall 465 [.l 2] 0 0 20100)^qm 0^q1 (.rcall 465 [.l 4] 0 0 20200)^qm 0^q1 (.rcall 465 [.l 6] 0 0 20300)^qf 3 0^qs 3 1 8 1^qf 3 1^qs 3 1 10 3^qf 3 4^qs 3 1 12 5^qf 3 13^qs 3 1 14 7^qe) <| rs 18 (qm 0^q1 (.rcall 465 [.l 0] 0 0 20400)^qm 0^q1 (.rcall 465 [.l 2] 0 0 20500)^qm 0^q1 (.rcall 465 [.l 4] 0 0 20600)^qf 3 14^qs 3 1 6 1^qf 3 15^qs 3 1 8 3^qf 3 16^qs 3 1 10 5^qe) <| rs 27 (qm 0^q1 (.rcall 492 [.l 0] 0 0 20700)^qm 0^q1 (.rcall 492 [.l 2] 0 0 20800)^qf 3 2^qg 0^qs 3 1 5 1^qf 3 2^qg 1^qs 3 1 8 3^qe) <| rs 35 (qm 0^q1 (.rcall 464 [.l 0] 0 0 20900)^qm 0^q1 (.rcall 464 [.l 2] 0 0 21000)^qf 3 6^qs 3 3 4 1^qf 3 9^qs 3 3 6 3^qe) <| sq (rs 41 (qm 0^q3 (.rcall 466 [.l 0] 0 0 21100)^q3 (.mov (ci 0))^qe) <| bk 0 l467_0) <| sq (rs 72 (qm 0^q3 (.rcall 466 [.l 0] 0 0 21700)^q3 (.mov (ci 0))^qe) <| bk 4 l467_2) <| rs 98 (qb 3 17^qt 2 17 0^qe) .ret
def F467 : F := mF 1 [.cell 2 (some 17)] none c467
def l468_0 : C := .loop [] [] [] [] (rs 9 (q3 (.bin .lss (.g 8) (.g 7))^qe) <| sq (cd 9 .skip <| .exit 0) <| sq (bk 1 (rs 10 (qm 8^qv 5^qe) <| rs 11 (qm 1^qm 0^qm 5^qi 36^qJ 36^q3 (.call (.v (.l 0)) .no none [.l 4])^qe) <| cd 16 (rs 17 (qm 5^qv 4^qe) .ret) .skip)) <| r1 18 (q1 (.bin .add (.g 8) (ci 1))^qv 8^qe))
def c468 : C := rs 0 (qz 4 0^qe) <| sq (rs 6 (qm 0^qH false^q3 (.mov (ci 0))^qe) <| bk 0 l468_0) <| rs 0 (qz 4 (-1)^qe) .ret
def F468 : F := mF 2 [.t 4] none c468
def c469 : C := rs 0 (qG 2 z_12^qE 3^qz 4 0^qe) <| rs 11 (qm 0^qc 470^q2 10 (.mov (.l 1))^qx 0^qy 1^qY 2 2^qV 5 3^qV 0 4^qV 6 5^qe) <| i1 16 (qm 6^qK .neq 0^qe) 17 (rs 18 (q1 (.build z_12 [])^qm 6^qt 2 3 0^qE 3^qV 4 1^qe) .ret) <| rs 21 (qm 0^qc 470^q2 20 (.mov (.l 1))^qx 0^qy 1^qY 2 2^qV 7 3^qV 0 4^qV 6 5^qe) <| i1 26 (qm 6^qK .neq 0^qe) 27 (rs 28 (q1 (.build z_12 [])^qm 6^qt 2 3 0^qE 3^qV 4 1^qe) .ret) <| rs 31 (qm 0^qc 470^q2 30 (.mov (.l 1))^qx 0^qy 1^qY 2 2^qV 8 3^qV 0 4^qV 6 5^qe) <| i1 36 (qm 6^qK .neq 0^qe) 37 (rs 38 (q1 (.build z_12 [])^qm 6^qt 2 3 0^qE 3^qV 4 1^qe) .ret) <| rs 40 (qm 5^qm 7^qm 8^q1 (.build z_12 [(0,1,.l 0),(1,1,.l 1),(2,1,.l 2)])^qG 9 z_12^qs 9 3 4 3^qe) <| i1 44 (qb 9 3^qc 24^qN^qe) 46 (rs 47 (q1 (.build z_12 [])^qt 2 3 0^qE 3^qz 4 3^qe) .ret) <| rs 48 (qb 9 3^qm 0^qt 2 3 0^qw 3^qz 4 0^qe) .ret
def F469 : F := mF 1 [.cell 2 (some 3),.t 3,.t 4] none c469
def l470_0 : C := .loop [] [] [] [] (lq 10 (qm 5^qm 0^qh true^qq .lss 0^ya^qm 0^qm 5^q1 (.idx (.l 5) (.l 6))^q1 (.bin .geq (.l 7) (.c (.int .u8 128)))^zA 4^qe) 19 0 <| bk 1 (r1 20 (qm 5^qk .add 1^qv 5^qe)))
def l470_1 : C := .loop [] [] [] [] (lq 29 (qm 7^qK .geq 0^qe) 30 2 <| sq (bk 3 (r1 33 (qm 6^q1 (.bin .mul (ci 128) (.l 0))^qm 0^qm 7^q1 (.idx (.l 2) (.l 3))^q1 (.conv (.int .i64) (.l 4))^qk .rem 128^qq .add 1^qv 6^qe))) <| r1 31 (qm 7^qk .sub 1^qv 7^qe))
def c470 : C := rs 0 (qz 2 0^qE 3^qz 4 0^qe) <| rs 0 (qz 5 0^qe) <| sq (bk 0 l470_0) <| i1 22 (qm 5^qm 0^qh true^qQ .eql 0^qe) 25 (rs 0 (qz 2 0^qE 3^qz 4 2^qe) .ret) <| i1 26 (qm 5^qK .gtr 8^qe) 27 (rs 0 (qz 2 0^qE 3^qz 4 3^qe) .ret) <| rs 0 (qz 6 0^qe) <| sq (rs 28 (qm 5^qv 7^qe) <| bk 2 l470_1) <| rs 42 (qm 6^qc 487^q2 41 (.mov (.l 1))^qx 0^qy 1^qw 8^qD 9^q1 (.mov (.l 4))^qe) <| i1 46 (qm 8^qm 0^qm 5^qk .add 1^q1 (.sl true 0 (.l 1) none (some (.l 3)))^qQ .neq 0^qe) 51 (rs 0 (qz 2 0^qE 3^qz 4 3^qe) .ret) <| rt 52 (qm 6^qm 0^qm 5^qk .add 1^q1 (.sl true 0 (.l 1) (some (.l 3)) none)^qV 2 0^qw 3^qz 4 0^qe) .ret
def F470 : F := mF 1 [.t 2,.t 3,.t 4] none c470
def c471 : C := rs 0 (qE 2^qe) <| rs 7 (qm 0^q1 (.nilc (.l 0))^qg 0^ql 0^qc 494^q2 6 (.mov (.l 4))^qx 0^qy 1^qY 5 2^qV 3 6^qV 4 7^qV 5 8^qe) <| rs 15 (qm 0^qm 0^q1 (.nilc (.l 1))^qg 1^ql 0^yo^qm 5^qk .neq 0^zo 5^q1 (.nilc (.l 0))^qg 1^qs 0 1 10 8^qe) <| rs 26 (qm 0^qm 4^q1 (.nilc (.l 0))^qg 0^qs 0 1 3 1^qe) <| rs 30 (qm 3^qv 2^qe) .ret
def F471 : F := mF 1 [.t 2] none c471
def c472 : C := rs 0 (qF 2^qe) <| rs 7 (qm 0^q1 (.nilc (.l 0))^qg 0^ql 0^qc 495^q2 6 (.mov (.l 4))^qx 0^qy 1^qY 5 2^qV 3 6^qV 4 7^qV 5 8^qe) <| rs 15 (qm 0^qm 0^q1 (.nilc (.l 1))^qg 1^ql 0^yo^qm 5^qk .neq 0^zo 5^q1 (.nilc (.l 0))^qg 1^qs 0 1 10 8^qe) <| rs 26 (qm 0^qm 4^q1 (.nilc (.l 0))^qg 0^qs 0 1 3 1^qe) <| rs 30 (qm 3^qv 2^qe) .ret
def F472 : F := mF 1 [.t 2] none c472
def c473 : C := rs 0 (qB 2 0^qB 3 1^qG 4 z_10^qe) <| rs 6 (qr 2 1^q1 (.fn 496 [.g 3] [3])^q1 (.call (.k 463) .borrow none [.l 1,.l 2])^qv 5^qe) <| rs 10 (qr 2 1^q1 (.call (.k 497) .freeze (some 0) [.l 1])^qf 2 1^qs 2 1 3 2^qe) <| sq (bk 0 (rs 22 (qm 5^qk .lss 0^qv 21^qe) <| cd 21 (r1 24 (qr 2 1^qb 3 9^q1 (.mks 9 1 z_9 [(0,.l 2)])^q1 (.app 12 9 (.l 1) (.l 3))^qf 2 1^qs 2 1 5 4^qe)) <| rt 31 (qr 2 1^qm 5^qi 9^qg 0^q1 (.load (.e 12) none (.l 4))^qr 3 0^qq .eql 5^qv 30^qe) <| cd 30 (r1 40 (qr 2 1^qm 5^qb 3 9^q1 (.iad 9 (.l 1) (.l 2))^q5 (.store (.e 12) 9 (.l 4) (.l 3))^qe)) <| r1 14 (qr 2 1^qm 5^qb 3 9^q1 (.mks 9 1 z_9 [(0,.l 3)])^q1 (.ins 498 12 9 (.l 1) (.l 2) (.l 4))^qf 2 1^qs 2 1 6 5^qe))) <| rs 45 (qb 2 2^qt 4 2 0^qe) .ret
def F473 : F := mF 2 [.cell 4 (some 2)] none c473
def c474 : C := rs 0 (qB 2 0^qG 4 z_12^qG 5 z_12^qz 6 0^qe) <| i1 7 (qb 2 3^qm 1^qd 499^qN^qe) 10 (rs 11 (q1 (.build z_12 [])^q1 (.build z_12 [])^qt 4 3 0^qt 5 3 1^qz 6 1^qe) .ret) <| sq (bk 0 (rs 20 (qm 1^qf 2 0^qg 0^ql 2^qq .gtr 0^qv 19^qe) <| cd 19 (r1 25 (qm 1^qf 2 0^qg 0^qs 2 1 2 0^qf 2 0^qg 1^qu 2 5 0^qe)) <| rs 31 (qf 2 0^qg 1^ql 2^qk .eql 1048576^qv 30^qe) <| cd 30 (rs 35 (q1 (.build z_12 [])^q1 (.build z_12 [])^qt 4 3 0^qt 5 3 1^qz 6 6^qe) .ret) <| r1 13 (qf 2 0^qg 1^ql 2^qk .add 1^qf 2 0^qg 1^qs 2 1 5 3^qe))) <| rt 37 (qb 2 3^qR 2 0 3^qt 4 3 0^qt 5 3 2^qz 6 0^qe) .ret
def F474 : F := mF 2 [.cell 4 (some 3),.cell 5 (some 3),.t 6] none c474
def l483_0 : C := .loop [] [] [] [] (rs 12 (q3 (.bin .lss (.g 11) (.g 10))^qe) <| sq (cd 12 .skip <| .exit 0) <| sq (bk 1 (rs 13 (q1 (.iad 1 (.g 9) (.g 11))^qj^qv 6^qe) <| rs 16 (qm 6^qc 456^q2 15 (.mov (.l 1))^qx 0^qy 1^qw 7^qw 8^qe) <| i1 20 (qm 8^qK .neq 0^qe) 21 (rs 22 (qm 8^qE 2^qw 3^qe) .ret) <| r1 23 (qm 4^qm 7^q1 (.app 4 1 (.l 0) (.l 1))^qv 4^qe))) <| r1 26 (q1 (.bin .add (.g 11) (ci 1))^qv 11^qe))
def c483 : C := rs 0 (qE 2^qz 3 0^qe) <| rs 4 (q3 (.mko 1)^qe) <| sq (rs 9 (q3 (.mov (.g 0))^qH false^q3 (.mov (ci 0))^qe) <| bk 0 l483_0) <| rs 27 (qm 4^q1 (.b2s (.l 0))^qv 2^qz 3 0^qe) .ret
def F483 : F := mF 1 [.t 2,.t 3] none c483
def c484 : C := rs 0 (qE 2^qe) <| rs 6 (qm 0^qh true^qc 456^q2 5 (.mov (.l 2))^qx 0^qy 1^qw 3^qD 4^q1 (.mov (.l 5))^qe) <| rs 11 (qm 3^qm 0^qq .add 0^qv 2^qe) .ret
def F484 : F := mF 1 [.t 2] none c484
def c485 : C := rs 0 (qE 2^qe) <| i1 3 (q3 (.mov (.g 0))^qe) 3 (rs 2 (q3 (.mov (.c (.str [1])))^qe) .ret) <| rs 2 (q3 (.mov (.c (.str [0])))^qe) .ret
def F485 : F := mF 1 [.t 2] none c485
def c486 : C := rs 0 (qB 1 0^qE 2^qe) <| rs 10 (qr 1 0^qc 487^q2 9 (.mov (.l 2))^qx 0^qy 1^qw 3^qD 4^q1 (.mov (.l 5))^qe) <| rs 16 (qr 1 1^qc 487^q2 15 (.mov (.l 2))^qx 0^qy 1^qw 5^qD 6^q1 (.mov (.l 5))^qe) <| rs 22 (qr 1 2^qc 487^q2 21 (.mov (.l 2))^qx 0^qy 1^qw 7^qD 8^q1 (.mov (.l 5))^qe) <| rs 27 (qm 3^qm 5^qq .add 0^qm 7^qq .add 2^qv 2^qe) .ret
def F486 : F := mF 1 [.t 2] none c486
def l487_0 : C := .loop [] [] [] [] (lq 12 (qm 6^qm 4^qh false^qQ .lss 0^qe) 15 0 <| sq (bk 1 (rs 18 (qm 4^qm 6^qi 1^qj^qv 7^qe) <| i1 22 (qm 6^qm 4^qh false^qk .sub 1^qQ .lss 0^qe) 26 (r1 27 (qm 7^qk .add 128^qv 7^qe)) <| r1 29 (qm 5^qm 7^q1 (.conv (.int .u8) (.l 1))^q1 (.mks 1 1 [.int .u8 0] [(0,.l 2)])^q1 (.b2s (.l 3))^qq .add 0^qv 5^qe))) <| r1 16 (qm 6^qk .add 1^qv 6^qe))
def c487 : C := rs 0 (qE 2^qz 3 0^qe) <| i1 8 (qm 0^qK .lss 0^qe) 9 (rs 0 (qE 2^qz 3 1^qe) .ret) <| rs 10 (qm 0^qc 502^qv 4^qe) <| rs 0 (qE 5^qe) <| sq (rs 0 (qz 6 0^qe) <| bk 0 l487_0) <| rs 35 (qm 5^qv 2^qz 3 0^qe) .ret
def F487 : F := mF 1 [.t 2,.t 3] none c487
def c488 : C := rs 0 (qE 2^qe) <| rs 3 (qm 0^qc 503^qv 2^qe) .ret
def F488 : F := mF 1 [.t 2] none c488
def c489 : C := rs 0 (qE 2^qe) <| rs 3 (qm 0^qc 504^qv 2^qe) .ret
def F489 : F := mF 1 [.t 2] none c489
def l490_0 : C := .loop [] [] [] [] (rs 12 (q3 (.bin .lss (.g 11) (ci 3))^qe) <| sq (cd 12 .skip <| .exit 0) <| sq (bk 1 (rs 13 (qm 11^qv 6^qe) <| rs 15 (qm 0^qc 491^q2 14 (.mov (.l 1))^qx 0^qy 1^qY 2 2^qV 7 3^qV 8 4^qV 9 5^qe) <| i1 20 (qm 9^qK .neq 0^qe) 21 (rs 22 (q1 (.build z_12 [])^qm 9^qt 2 3 0^qE 3^qV 4 1^qe) .ret) <| r1 24 (qm 6^qm 7^qm 8^q1 (.iada 1 3 (.g 5) (.l 0))^qs 5 1 3 1^qV 0 2^qe))) <| r1 28 (q1 (.bin .add (.g 11) (ci 1))^qv 11^qe))
def c490 : C := rs 0 (qG 2 z_12^qE 3^qz 4 0^qe) <| rs 0 (qG 5 z_12^qe) <| sq (rs 0 (qz 11 0^qe) <| bk 0 l490_0) <| rs 29 (q1 (.iada 1 3 (.g 5) (ci 0))^ql 5^q1 (.iada 1 3 (.g 5) (ci 1))^ql 5^q1 (.iada 1 3 (.g 5) (ci 2))^ql 5^q1 (.build z_12 [(0,1,.l 1),(1,1,.l 3),(2,1,.l 5)])^qG 10 z_12^qs 10 3 7 6^qe) <| i1 36 (qb 10 3^qc 28^qN^qe) 38 (rs 39 (q1 (.build z_12 [])^qt 2 3 0^qE 3^qz 4 3^qe) .ret) <| rs 40 (qb 10 3^qm 0^qt 2 3 0^qw 3^qz 4 0^qe) .ret
def F490 : F := mF 1 [.cell 2 (some 3),.t 3,.t 4] none c490
def l491_0 : C := .loop [] [] [] [] (rs 11 (q3 (.bin .lss (.g 10) (.g 9))^qe) <| sq (cd 11 .skip <| .exit 0) <| sq (bk 1 (rs 12 (qm 10^qv 6^qe) <| rs 13 (qm 0^qm 6^q1 (.idx (.l 0) (.l 1))^q1 (.bin .and (.l 2) (.c (.int .u8 127)))^q1 (.conv (.int .i64) (.l 3))^qv 7^qe) <| bk 2 (rs 29 (qm 6^qk .gtr 8^ya^qm 0^qm 6^q1 (.idx (.l 3) (.l 4))^q1 (.bin .geq (.l 5) (.c (.int .u8 128)))^yo^qm 7^qk .gtr 0^y1 2^qo 7^za 2^qv 28^qe) <| cd 28 (rs 41 (qm 0^qc 505^qz 2 0^qE 3^qV 4 1^qe) .ret) <| rs 44 (qm 0^qm 6^q1 (.idx (.l 0) (.l 1))^q1 (.bin .geq (.l 2) (.c (.int .u8 128)))^qv 43^qe) <| cd 43 (r1 48 (qm 5^qm 7^qm 6^q1 (.bin .mul (ci 7) (.l 2))^q1 (.sh .shl (.l 1) (.l 3))^qq .or 0^qv 5^qe)) <| rs 55 (qm 7^qk .eql 0^ya^qm 6^qk .gtr 0^za 2^qv 54^qe) <| cd 54 (rs 0 (qz 2 0^qE 3^qz 4 3^qe) .ret) <| rt 18 (qm 5^qm 7^qm 6^q1 (.bin .mul (ci 7) (.l 2))^q1 (.sh .shl (.l 1) (.l 3))^qq .or 0^qm 0^qm 6^qk .add 1^q1 (.sl true 0 (.l 6) (some (.l 8)) none)^qV 2 5^qw 3^qz 4 0^qe) .ret))) <| r1 61 (q1 (.bin .add (.g 10) (ci 1))^qv 10^qe))
def c491 : C := rs 0 (qz 2 0^qE 3^qz 4 0^qe) <| rs 0 (qz 5 0^qe) <| sq (rs 8 (qm 0^qH true^q3 (.mov (ci 0))^qe) <| bk 0 l491_0) <| rs 0 (qz 2 0^qE 3^qz 4 2^qe) .ret
def F491 : F := mF 1 [.t 2,.t 3,.t 4] none c491
def c492 : C := rs 0 (qE 2^qe) <| rs 7 (qm 0^q1 (.nilc (.l 0))^qg 0^ql 0^qc 506^q2 6 (.mov (.l 4))^qx 0^qy 1^qY 5 2^qV 3 6^qV 4 7^qV 5 8^qe) <| i1 15 (qm 0^q1 (.nilc (.l 0))^qg 1^ql 0^yo^qm 5^qk .neq 0^zO 4^qe) 22 (rs 23 (qm 0^q1 (.nilc (.l 0))^qg 1^q5 (.store (.v 0) 1 (.l 2) (cb true))^qe) <| rs 0 (qE 2^qe) .ret) <| rs 26 (qm 0^qm 4^q1 (.nilc (.l 0))^qg 0^qs 0 1 3 1^qe) <| rs 30 (qm 3^qv 2^qe) .ret
def F492 : F := mF 1 [.t 2] none c492
def c493 : C := rs 0 (qF 2^qe) <| rs 7 (qm 0^q1 (.nilc (.l 0))^qg 0^ql 0^qc 507^q2 6 (.mov (.l 4))^qx 0^qy 1^qY 5 2^qV 3 6^qV 4 7^qV 5 8^qe) <| i1 15 (qm 0^q1 (.nilc (.l 0))^qg 1^ql 0^yo^qm 5^qk .neq 0^zO 4^qe) 22 (rs 23 (qm 0^q1 (.nilc (.l 0))^qg 1^q5 (.store (.v 0) 1 (.l 2) (cb true))^qe) <| rs 0 (qF 2^qe) .ret) <| rs 26 (qm 0^qm 4^q1 (.nilc (.l 0))^qg 0^qs 0 1 3 1^qe) <| rs 30 (qm 3^qv 2^qe) .ret
def F493 : F := mF 1 [.t 2] none c493
def c494 : C := rs 0 (qE 2^qE 3^qz 4 0^qe) <| rs 9 (qm 0^qc 470^q2 8 (.mov (.l 1))^qx 0^qy 1^qY 2 2^qV 5 3^qV 6 4^qV 7 5^qe) <| i1 14 (qm 7^qK .neq 0^qe) 15 (rs 16 (qm 7^qE 2^qE 3^qV 4 0^qe) .ret) <| i1 17 (qm 5^qm 6^qh true^qQ .gtr 0^qe) 20 (rs 0 (qE 2^qE 3^qz 4 2^qe) .ret) <| rt 21 (qm 6^qm 5^q1 (.sl true 0 (.l 0) none (some (.l 1)))^qm 6^qm 5^q1 (.sl true 0 (.l 3) (some (.l 4)) none)^qV 2 2^qw 3^qz 4 0^qe) .ret
def F494 : F := mF 1 [.t 2,.t 3,.t 4] none c494
def c495 : C := rs 0 (qF 2^qE 3^qz 4 0^qe) <| i1 5 (qm 0^qh true^qK .eql 0^qe) 7 (rs 0 (qF 2^qE 3^qz 4 2^qe) .ret) <| i1 8 (qm 0^q1 (.idx (.l 0) (ci 0))^q3 (.bin .gtr (.l 1) (.c (.int .u8 1)))^qe) 10 (rs 0 (qF 2^qE 3^qz 4 3^qe) .ret) <| rt 11 (qm 0^q1 (.idx (.l 0) (ci 0))^q1 (.bin .eql (.l 1) (.c (.int .u8 1)))^qm 0^q1 (.sl true 0 (.l 3) (some (ci 1)) none)^qV 2 2^qw 3^qz 4 0^qe) .ret
def F495 : F := mF 1 [.t 2,.t 3,.t 4] none c495
def c496 : C := rs 0 (qB 2 0^qF 3^qe) <| rs 4 (qr 2 0^qf 1 0^qj^qq .geq 1^qv 3^qe) .ret
def F496 : F := mF 2 [.t 3] none c496
def c499 : C := rs 0 (qB 2 0^qF 4^qe) <| rs 5 (qR 2 0 3^qc 28^ya^qm 1^qk .geq 0^za 3^ya^qm 1^qk .leq 1099511627776^za 7^qv 4^qe) .ret
def F499 : F := mF 2 [.t 4] none c499
def l502_0 : C := .loop [] [] [] [] (lq 9 (qm 0^qK .gtr 0^qe) 10 0 <| bk 1 (rs 11 (qm 3^qm 0^qk .rem 128^q1 (.mks 1 1 [.int .i64 0] [(0,.l 2)])^q1 (.app 6 1 (.l 0) (.l 3))^qv 3^qe) <| r1 16 (qm 0^qk .quo 128^qv 0^qe)))
def c502 : C := rs 0 (qS 2 1^qe) <| rs 4 (qm 0^qk .rem 128^q1 (.mkb 1 1 [.int .i64 0] [(0,.l 1)])^qv 3^qe) <| rs 7 (qm 0^qk .quo 128^qv 0^qe) <| sq (bk 0 l502_0) <| rs 18 (qm 3^qv 2^qe) .ret
def F502 : F := mF 1 [.t 2] none c502
def c503 : C := rs 0 (qE 2^qe) <| rs 6 (qm 0^qh true^qc 487^q2 5 (.mov (.l 2))^qx 0^qy 1^qw 3^qD 4^q1 (.mov (.l 5))^qe) <| rs 11 (qm 3^qm 0^qq .add 0^qv 2^qe) .ret
def F503 : F := mF 1 [.t 2] none c503
def c504 : C := rs 0 (qE 2^qe) <| i1 3 (q3 (.mov (.g 0))^qe) 3 (rs 4 (q1 (.mks 1 1 [.int .u8 0] [(0,.c (.int .u8 1))])^q1 (.b2s (.l 0))^qv 2^qe) .ret) <| rs 6 (q1 (.mks 1 1 [.int .u8 0] [(0,.c (.int .u8 0))])^q1 (.b2s (.l 0))^qv 2^qe) .ret
def F504 : F := mF 1 [.t 2] none c504
def l505_0 : C := .loop [] [] [] [] (rs 7 (q3 (.bin .lss (.g 6) (.g 5))^qe) <| sq (cd 7 .skip <| .exit 0) <| sq (bk 1 (rs 8 (qm 6^qv 3^qe) <| rs 9 (qm 0^qm 3^q1 (.idx (.l 0) (.l 1))^q3 (.bin .lss (.l 2) (.c (.int .u8 128)))^qe) <| cd 12 (rs 0 (qz 2 3^qe) .ret) .skip)) <| r1 13 (q1 (.bin .add (.g 6) (ci 1))^qv 6^qe))
def c505 : C := rs 0 (qz 2 0^qe) <| sq (rs 4 (qm 0^qH true^q3 (.mov (ci 0))^qe) <| bk 0 l505_0) <| rs 0 (qz 2 2^qe) .ret
def F505 : F := mF 1 [.t 2] none c505
def c506 : C := rs 0 (qE 2^qE 3^qz 4 0^qe) <| rs 9 (qm 0^qc 491^q2 8 (.mov (.l 1))^qx 0^qy 1^qY 2 2^qV 5 3^qV 6 4^qV 7 5^qe) <| i1 14 (qm 7^qK .neq 0^qe) 15 (rs 16 (qm 7^qE 2^qE 3^qV 4 0^qe) .ret) <| i1 17 (qm 6^qh true^qm 5^qQ .lss 1^qe) 20 (rs 0 (qE 2^qE 3^qz 4 2^qe) .ret) <| rt 21 (qm 6^qm 5^q1 (.sl true 0 (.l 0) none (some (.l 1)))^qm 6^qm 5^q1 (.sl true 0 (.l 3) (some (.l 4)) none)^qV 2 2^qw 3^qz 4 0^qe) .ret
def F506 : F := mF 1 [.t 2,.t 3,.t 4] none c506
def c507 : C := rs 0 (qF 2^qE 3^qz 4 0^qe) <| sq (bk 0 (rs 6 (qm 0^q1 (.bin .eql (.l 0) (.c (.str [])))^qv 5^qe) <| cd 5 (rs 0 (qF 2^qE 3^qz 4 2^qe) .ret) <| rs 9 (qm 0^q1 (.idx (.l 0) (ci 0))^q1 (.bin .gtr (.l 1) (.c (.int .u8 1)))^qv 8^qe) <| cd 8 (rs 0 (qF 2^qE 3^qz 4 3^qe) .ret) .skip)) <| rt 12 (qm 0^q1 (.idx (.l 0) (ci 0))^q1 (.bin .eql (.l 1) (.c (.int .u8 1)))^qm 0^q1 (.sl true 0 (.l 3) (some (ci 1)) none)^qV 2 2^qw 3^qz 4 0^qe) .ret
def F507 : F := mF 1 [.t 2,.t 3,.t 4] none c507
attribute [go_sem] c395 F395 c397 F397 c398 F398 c399 F399 c401 F401 c404 F404 r405_17 r405_18 c405 F405 c408 F408 c411 F411 c413 F413 c414 F414 c421 F421 c422 F422 c423 F423 c424 F424 c425 F425 c426 F426 c427 F427 c428 F428 c429 F429 c430 F430 c431 F431 c432 F432 c434 F434 c435 F435 c436 F436 c439 F439 c440 F440 c442 F442 c445 F445 c455 F455 c456 F456 c457 F457 c458 F458 c459 F459 c460 F460 c461 F461 c462 F462 c463 F463 c464 F464 c465 F465 c466 F466 c467 F467 c468 F468 c469 F469 c470 F470 c471 F471 c472 F472 c473 F473 c474 F474 c483 F483 c484 F484 c485 F485 c486 F486 c487 F487 c488 F488 c489 F489 c490 F490 c491 F491 c492 F492 c493 F493 c494 F494 c495 F495 c496 F496 c499 F499 c502 F502 c503 F503 c504 F504 c505 F505 c506 F506 c507 F507
def c508 : C := rs 0 (qB 1 0^qF 2^qe) <| rs 8 (qb 1 2^qc 509^qG 3 z_10^qs 3 2 2 1^qe) <| i1 10 (qb 3 2^qc 404^qN^qe) 12 (rs 13 (q0 510^qv 2^qe) .ret) <| rs 15 (qb 1 2^qc 511^q2 14 (.mov (.l 1))^qx 0^qy 1^qw 4^qw 5^qe) <| i1 19 (qb 3 2^qc 405^qN^qe) 21 (rs 22 (qm 4^q1 (.bin .eql (.l 0) (.c (.str [])))^ya^qm 5^qk .eql 1^za 2^ya^q0 510^za 6^qv 2^qe) .ret) <| rs 32 (qm 4^qc 512^q2 31 (.mov (.l 1))^qx 0^qy 1^qG 6 z_10^qs 6 2 5 3^qV 7 4^qe) <| rt 36 (qm 4^qb 3 2^qc 513^qq .eql 0^ya^qm 5^qk .eql 0^za 4^ya^qm 7^qk .eql 0^za 8^ya^qb 6 2^qc 509^qb 3 2^qd 399^za 12^ya^q0 510^za 18^qv 2^qe) .ret
def F508 : F := mF 1 [.t 2] none c508
def l509_0 : C := .loop [] [] [5] [] (rs 13 (q3 (.bin .lss (.g 12) (.g 11))^qe) <| sq (cd 13 .skip <| .exit 0) <| sq (bk 1 (rs 14 (q1 (.iad 9 (.g 10) (.g 12))^qJ 9^qG 5 z_9^qs 5 9 2 1^qe) <| r1 16 (qr 3 1^qr 5 0^qR 5 1 7^qr 5 8^q1 (.build z_9 [(0,1,.l 3),(1,7,.l 5),(8,1,.l 7)])^q1 (.mks 9 1 z_9 [(0,.l 8)])^q1 (.app 26 9 (.l 1) (.l 9))^qf 3 1^qs 3 1 11 10^qe))) <| r1 28 (q1 (.bin .add (.g 12) (ci 1))^qv 12^qe))
def c509 : C := rs 0 (qB 1 0^qG 2 z_10^qe) <| rs 6 (qr 1 0^q1 (.build [.int .i64 0,.nslice 9] [(0,1,.l 1)])^qG 3 z_11^qs 3 2 3 2^qe) <| sq (rs 9 (qf 1 1^q3 (.load (.v 1) none (.l 0))^qH false^q3 (.mov (ci 0))^qe) <| bk 0 l509_0) <| rs 29 (qb 3 2^qt 2 2 0^qe) .ret
def F509 : F := mF 1 [.cell 2 (some 2)] none c509
def c510 : C := rs 0 (qF 0^qe) <| rs 9 (qC 522 [ci 1]^q2 8 (.mov (.l 0))^qx 0^qy 1^qG 1 z_19^qs 1 38 4 2^qV 2 3^qe) <| rs 13 (qb 1 38^qC 523 [.l 0,ci 1]^q1 (.build z_18 [(0,1,.c (.int .i64 1)),(1,1,.c (.int .i64 1)),(2,1,.c (.int .i64 1)),(3,1,.c (.str [97]))])^q1 (.build z_15 [(0,1,.c (.int .i64 1)),(1,1,.c (.int .i64 11)),(2,1,.c (.int .i64 1)),(7,1,.c (.int .i64 1)),(3,1,.c (.int .i64 1)),(4,1,.c (.int .i64 1)),(13,12,.l 2)])^qC 524 [.l 1,ci 5,.l 3]^q2 12 (.mov (.l 4))^qx 0^qy 1^qY 5 2^qG 3 z_19^qs 3 38 9 6^qD 4^q1 (.mov (.l 7))^q3 (.mov (.l 8))^qe) <| rs 22 (qb 3 38^qC 525 [.l 0,ci 0]^q2 21 (.mov (.l 1))^qx 0^qy 1^qG 6 z_19^qs 6 38 5 3^qV 7 4^qe) <| rs 26 (qm 2^qk .eql 0^ya^qm 5^qk .eql 16^za 2^ya^qr 3 37^qn^za 6^ya^qm 7^qk .eql 0^za 11^ya^qr 6 37^za 15^ya^qf 1 1^qg 0^ql 1^qh true^qk .gtr 0^za 19^ya^qf 6 1^qg 0^ql 6^qf 1 1^qg 0^ql 1^qq .eql 29^za 26^qv 0^qe) .ret
def F510 : F := mF 0 [.t 0] none c510
def l511_1 : C := .loop [] [4,0,10400] [8] [20700] (rs 65 (q3 (.bin .lss (.g 64) (.g 63))^qe) <| sq (cd 65 .skip <| .exit 2) <| sq (bk 3 (rs 66 (q1 (.iad 36 (.g 62) (.g 64))^qJ 36^qG 8 z_15^qs 8 36 2 1^qe) <| rs 69 (qb 8 36^qc 529^q2 68 (.mov (.l 1))^qx 0^qy 1^qw 9^qD 10^q1 (.mov (.l 4))^qe) <| r1 73 (qm 9^q1 (.mks 1 1 [.str []] [(0,.l 0)])^q1 (.rcall 528 [.g 4,.l 1] 0 4 20700)^qe))) <| r1 76 (q1 (.bin .add (.g 64) (ci 1))^qv 64^qe))
def l511_0 : C := .loop [] [4,0,10400] [6,8] [20100,20200,20300,20400,20500,20600,20700] (rs 25 (q3 (.bin .lss (.g 24) (.g 23))^qe) <| sq (cd 25 .skip <| .exit 0) <| sq (bk 1 (rs 26 (q1 (.iad 9 (.g 22) (.g 24))^qJ 9^qG 6 z_9^qs 6 9 2 1^qe) <| rs 28 (qr 6 0^qf 6 1^qg 1^ql 6^q1 (.mks 1 2 [.int .i64 0] [(0,.l 1),(1,.l 4)])^q1 (.rcall 526 [.g 4,.l 5] 0 4 20100)^qe) <| rs 35 (qf 6 1^qg 2^ql 6^q1 (.rcall 527 [.g 4,.l 2] 0 4 20200)^qe) <| rs 39 (qf 6 1^qg 3^ql 6^q1 (.mks 1 1 [.int .i64 0] [(0,.l 2)])^q1 (.rcall 526 [.g 4,.l 3] 0 4 20300)^qe) <| rs 44 (qf 6 1^qg 4^ql 6^qf 6 1^qg 5^ql 6^q1 (.mks 1 2 [.str []] [(0,.l 2),(1,.l 5)])^q1 (.rcall 528 [.g 4,.l 6] 0 4 20400)^qe) <| rs 52 (qf 6 1^qg 6^ql 6^q1 (.rcall 527 [.g 4,.l 2] 0 4 20500)^qe) <| rs 56 (qr 6 8^qh false^q1 (.mks 1 1 [.int .i64 0] [(0,.l 2)])^q1 (.rcall 526 [.g 4,.l 3] 0 4 20600)^qe) <| rs 61 (qf 6 8^q3 (.load (.v 6) none (.l 0))^qH false^q3 (.mov (ci 0))^qe) <| bk 2 l511_1)) <| r1 77 (q1 (.bin .add (.g 24) (ci 1))^qv 24^qe))
def c511 : C := rs 0 (qB 1 0^qE 2^qz 3 0^qe) <| i1 11 (qb 1 2^qc 408^qN^qe) 13 (rs 0 (qE 2^qz 3 1^qe) .ret) <| rs 4 (q3 (.allo [.nslice 1] 10400)^qe) <| rs 14 (qr 1 0^qr 1 1^qh false^q1 (.mks 1 2 [.int .i64 0] [(0,.l 1),(1,.l 4)])^q1 (.rcall 526 [.g 4,.l 5] 0 4 20000)^qe) <| sq (rs 21 (qf 1 1^q3 (.load (.v 1) none (.l 0))^qH false^q3 (.mov (ci 0))^qe) <| bk 0 l511_0) <| rs 78 (qr 4 0^q1 (.b2s (.l 1))^qv 2^qz 3 0^qe) .ret
def F511 : F := mF 1 [.t 2,.t 3] none c511
def l512_0 : C := .loop [] [] [] [] (rs 15 (q3 (.bin .lss (.g 14) (.g 13))^qe) <| sq (cd 15 .skip <| .exit 0) <| sq (bk 1 (r2 16 (qr 5 1^qm 4^qr 5 0^q1 (.rcall 532 [.l 2,.l 4] 0 8 20200)^q1 (.mks 9 1 z_9 [(0,.l 5)])^q1 (.app 23 9 (.l 1) (.l 6))^qf 5 1^qs 5 1 8 7^qe))) <| r1 25 (q1 (.bin .add (.g 14) (ci 1))^qv 14^qe))
def c512 : C := rs 0 (qG 2 z_10^qz 3 0^qe) <| rs 6 (qm 0^q1 (.build z_13 [(0,1,.l 0)])^q1 (.box (.l 1))^qv 4^qe) <| rs 9 (qm 4^q1 (.rcall 530 [.l 0] 0 8 20000)^q1 (.build [.int .i64 0,.nslice 9] [(0,1,.l 1)])^qG 5 z_11^qs 5 2 3 2^qe) <| sq (rs 12 (qm 4^q3 (.rcall 531 [.l 0] 0 8 20100)^q3 (.mov (ci 0))^qe) <| bk 0 l512_0) <| i1 26 (qm 4^q1 (.nilc (.l 0))^qg 1^ql 8^yo^qm 4^q1 (.nilc (.l 5))^qg 0^ql 8^q1 (.bin .neq (.l 8) (.c (.str [])))^zo 4^yo^qb 5 2^q1 (.call (.k 408) .borrow none [.l 12])^qn^zO 11^qe) 41 (rs 42 (q1 (.build z_10 [])^qt 2 2 0^qz 3 3^qe) .ret) <| rs 43 (qb 5 2^qt 2 2 0^qz 3 0^qe) .ret
def F512 : F := mF 1 [.cell 2 (some 2),.t 3] none c512
def l513_1 : C := .loop [] [] [] [] (lq 67 (qm 6^qr 5 8^qh false^qQ .lss 0^qe) 71 2 <| sq (bk 3 (r1 74 (qm 3^qr 5 8^qm 6^qi 36^qJ 36^qc 536^qc 535^qq .add 0^qv 3^qe))) <| r1 72 (qm 6^qk .add 1^qv 6^qe))
def l513_0 : C := .loop [] [] [5] [] (lq 15 (qm 4^qr 1 1^qh false^qQ .lss 0^qe) 19 0 <| sq (bk 1 (rs 22 (qr 1 1^qm 4^qi 9^qJ 9^qG 5 z_9^qs 5 9 5 4^qe) <| rt 27 (qm 3^qr 5 0^qc 533^qq .add 0^qf 5 1^qg 1^ql 5^qc 533^qq .add 4^qf 5 1^qg 2^ql 5^qc 534^qq .add 9^qf 5 1^qg 3^ql 5^qc 533^qq .add 14^qf 5 1^qg 4^ql 5^qc 535^qq .add 19^qf 5 1^qg 5^ql 5^qc 535^qq .add 24^qf 5 1^qg 6^ql 5^qc 534^qq .add 29^qr 5 8^qh false^qc 533^qq .add 34^qv 3^qe) <| rs 0 (qz 6 0^qe) <| bk 2 l513_1)) <| r1 20 (qm 4^qk .add 1^qv 4^qe))
def c513 : C := rs 0 (qB 1 0^qE 2^qe) <| rt 7 (qr 1 0^qc 533^qr 1 1^qh false^qc 533^qq .add 2^qv 3^qe) <| sq (rs 0 (qz 4 0^qe) <| bk 0 l513_0) <| rs 83 (qm 3^qv 2^qe) .ret
def F513 : F := mF 1 [.t 2] none c513
def c522 : C := rs 0 (qG 2 z_19^qz 3 0^qe) <| rs 7 (qm 0^q1 (.build z_19 [(0,1,.l 0),(37,1,.c (.bool true))])^qG 4 z_19^qs 4 38 2 1^qe) <| sq (rs 9 (qm 0^qK .eql 0^qe) <| cd 10 (r1 11 (q0 327^qf 4 8^qs 4 29 1 0^qe)) <| rs 14 (qm 0^qc 395^q2 13 (.mov (.l 1))^qx 0^qy 1^qG 5 z_10^qs 5 2 5 3^qV 6 4^qe) <| i1 18 (qm 6^qK .neq 0^qe) 19 (rs 20 (q1 (.build z_19 [])^qm 6^qt 2 38 0^qw 3^qe) .ret) <| r1 22 (qb 5 2^qf 4 6^qs 4 2 1 0^qe)) <| rt 25 (qR 4 1 5^qb 4 38^qc 552^q1 (.inv [(163,553),(165,554)] (.l 3) [])^qC 555 (ls [1,4])^q2 24 (.mov (.l 5))^qx 0^qy 1^qf 4 1^qs 4 5 9 7^qe) <| rs 34 (qb 4 38^qt 2 38 0^qz 3 0^qe) .ret
def F522 : F := mF 1 [.cell 2 (some 38),.t 3] none c522
def c523 : C := rs 0 (qB 2 0^qG 4 z_19^qe) <| i1 5 (qb 2 38^q3 (.call (.k 556) .no none [.l 0])^qe) 6 (r1 7 (qR 2 1 5^qm 1^qd 557^qf 2 1^qs 2 5 4 3^qe)) <| rs 12 (qb 2 38^qt 4 38 0^qe) .ret
def F523 : F := mF 2 [.cell 4 (some 38)] none c523
def c524 : C := rs 0 (qB 3 0^qB 5 2^qG 6 z_19^qS 7 36^qz 8 0^qe) <| sq (rs 13 (qb 3 38^qc 558^qv 9^qe) <| rs 15 (qm 9^qK .neq 0^qe) <| cd 16 (rs 17 (qb 3 38^qm 9^qt 6 38 0^qS 7 36^qV 8 1^qe) .ret) .skip) <| rt 20 (qb 3 38^qc 552^qm 1^qb 5 36^q1 (.inv [(163,559),(165,560)] (.l 1) [.l 2,.l 3])^q2 19 (.mov (.l 4))^qx 0^qy 1^qw 10^qw 11^qe) <| rs 28 (qb 3 38^qm 10^qd 561^q2 27 (.mov (.l 2))^qx 0^qy 1^qt 3 38 4^qw 12^qe) <| rs 33 (qb 3 38^qm 11^qm 12^qC 562 (ls [0,1,2])^qx 0^qy 1^qY 3 2^qt 6 38 4^qV 7 5^qV 8 6^qe) .ret
def F524 : F := mF 3 [.cell 6 (some 38),.t 7,.t 8] none c524
def c525 : C := rs 0 (qB 2 0^qG 4 z_19^qz 5 0^qe) <| i1 14 (qb 2 38^qc 556^qN^qe) 16 (rs 17 (qb 2 38^qt 4 38 0^qz 5 1^qe) .ret) <| rs 18 (qf 2 37^q5 (.store (.v 2) 1 (.l 0) (cb false))^qe) <| rs 20 (qR 2 1 5^qm 1^qd 563^qc 564^q2 19 (.mov (.l 4))^qx 0^qy 1^qY 5 2^qG 6 z_20^qs 6 5 9 6^qV 7 7^qV 8 8^qe) <| rs 28 (qb 6 5^qf 2 1^qs 2 5 1 0^qe) <| sq (bk 0 (rs 31 (qm 8^qk .neq 0^qv 30^qe) <| cd 30 (rs 33 (qb 2 38^qm 8^qt 4 38 0^qw 5^qe) .ret) <| rs 36 (qm 7^qh false^qk .eql 0^qv 35^qe) <| cd 35 (rs 39 (qb 2 38^qt 4 38 0^qz 5 3^qe) .ret) .skip)) <| rs 40 (qm 7^qm 7^qh false^qk .sub 1^q1 (.iad 1 (.l 0) (.l 3))^qj^qv 9^qe) <| sq (rs 46 (qr 2 0^qK .eql 0^qe) <| cd 48 (rs 50 (qm 9^qc 517^q2 49 (.mov (.l 1))^qx 0^qy 1^qG 10 z_21^qs 10 29 5 3^qV 11 4^qe) <| i1 54 (qm 11^qK .neq 0^qe) 55 (rs 56 (qb 2 38^qm 11^qt 4 38 0^qw 5^qe) .ret) <| r1 58 (qb 10 29^qf 2 8^qs 2 29 1 0^qe)) <| rs 61 (qm 9^qc 512^q2 60 (.mov (.l 1))^qx 0^qy 1^qG 12 z_10^qs 12 2 5 3^qV 13 4^qe) <| i1 65 (qm 13^qk .neq 0^yo^qr 12 0^qr 2 0^qq .neq 4^zO 2^qe) 73 (rs 74 (qb 2 38^qt 4 38 0^qz 5 3^qe) .ret) <| r1 75 (qb 12 2^qf 2 6^qs 2 2 1 0^qe)) <| rs 77 (qf 2 37^q5 (.store (.v 2) 1 (.l 0) (cb true))^qe) <| rs 78 (qb 2 38^qt 4 38 0^qz 5 0^qe) .ret
def F525 : F := mF 2 [.cell 4 (some 38),.t 5] none c525
def l526_0 : C := .loop [] [0,0,9000] [] [] (rs 11 (q3 (.bin .lss (.g 10) (.g 9))^qe) <| sq (cd 11 .skip <| .exit 0) <| sq (bk 1 (rs 12 (q1 (.iad 1 (.g 8) (.g 10))^qj^qv 5^qe) <| rs 15 (qm 5^qc 456^q2 14 (.mov (.l 1))^qx 0^qy 1^qw 6^qD 7^q1 (.mov (.l 4))^qe) <| r1 19 (qm 0^qm 0^q1 (.nilc (.l 1))^qg 0^ql 0^qm 6^q1 (.appd 1 (.l 4) (.l 5))^q1 (.nilc (.l 0))^qg 0^qs 0 1 8 6^qe))) <| r1 28 (q1 (.bin .add (.g 10) (ci 1))^qv 10^qe))
def c526 : C := rs 8 (q3 (.mov (.g 1))^qH false^q3 (.mov (ci 0))^qe) <| bk 0 l526_0
def F526 : F := mF 2 [] none c526
def c527 : C := rs 4 (qm 0^qm 1^qh false^q1 (.mks 1 1 [.int .i64 0] [(0,.l 2)])^q1 (.rcall 526 [.l 0,.l 3] 0 0 20000)^qe) <| r1 9 (qm 0^qm 1^q1 (.rcall 526 [.l 0,.l 1] 0 0 20100)^qe)
def F527 : F := mF 2 [] none c527
def l528_0 : C := .loop [] [0,0,9000] [] [] (rs 9 (q3 (.bin .lss (.g 8) (.g 7))^qe) <| sq (cd 9 .skip <| .exit 0) <| sq (bk 1 (rs 10 (q1 (.iad 1 (.g 6) (.g 8))^qj^qv 5^qe) <| r2 12 (qm 0^qm 0^q1 (.nilc (.l 1))^qg 0^ql 0^qm 5^qc 484^q1 (.appd 1 (.l 4) (.l 6))^q1 (.nilc (.l 0))^qg 0^qs 0 1 9 7^qe))) <| r1 22 (q1 (.bin .add (.g 8) (ci 1))^qv 8^qe))
def c528 : C := rs 6 (q3 (.mov (.g 1))^qH false^q3 (.mov (ci 0))^qe) <| bk 0 l528_0
def F528 : F := mF 2 [] none c528
def l529_0 : C := .loop [] [4,0,10400] [8] [21400] (rs 101 (q3 (.bin .lss (.g 100) (.g 99))^qe) <| sq (cd 101 .skip <| .exit 0) <| sq (bk 1 (rs 102 (q1 (.iad 2 (.g 98) (.g 100))^qJ 2^qG 8 z_22^qs 8 2 2 1^qe) <| r1 104 (qr 8 0^qr 8 1^q1 (.mks 1 2 [.str []] [(0,.l 1),(1,.l 3)])^q1 (.rcall 457 [.g 4,.l 4] 0 4 21400)^qe))) <| r1 110 (q1 (.bin .add (.g 100) (ci 1))^qv 100^qe))
def l529_1 : C := .loop [] [4,0,10400] [10] [21800,21900] (rs 127 (q3 (.bin .lss (.g 126) (.g 125))^qe) <| sq (cd 127 .skip <| .exit 2) <| sq (bk 3 (rs 128 (q1 (.iad 5 (.g 124) (.g 126))^qJ 5^qG 10 z_0^qs 10 5 2 1^qe) <| rs 130 (qf 10 0^qg 0^ql 10^qf 10 0^qg 1^ql 10^q1 (.mks 1 2 [.str []] [(0,.l 2),(1,.l 5)])^q1 (.rcall 457 [.g 4,.l 6] 0 4 21800)^qe) <| r1 138 (qr 10 2^qr 10 3^qr 10 4^q1 (.mks 1 3 [.int .i64 0] [(0,.l 1),(1,.l 3),(2,.l 5)])^q1 (.rcall 422 [.g 4,.l 6] 0 4 21900)^qe))) <| r1 146 (q1 (.bin .add (.g 126) (ci 1))^qv 126^qe))
def c529 : C := rs 0 (qB 1 0^qE 2^qz 3 0^qe) <| i1 11 (qb 1 36^qc 341^qN^qe) 13 (rs 0 (qE 2^qz 3 1^qe) .ret) <| rs 4 (q3 (.allo [.nslice 1] 10400)^qe) <| rs 14 (qr 1 0^qr 1 1^qr 1 2^qr 1 3^qr 1 4^qr 1 5^qr 1 6^qr 1 7^qr 1 8^q1 (.mks 1 9 [.int .i64 0] [(0,.l 1),(1,.l 3),(2,.l 5),(3,.l 7),(4,.l 9),(5,.l 11),(6,.l 13),(7,.l 15),(8,.l 17)])^q1 (.rcall 422 [.g 4,.l 18] 0 4 20000)^qe) <| rs 34 (qR 1 9 3^q1 (.mks 3 1 z_12 [(0,.l 1)])^q1 (.rcall 421 [.g 4,.l 2] 0 4 20100)^qe) <| rs 38 (qr 1 12^q1 (.mks 1 1 [.str []] [(0,.l 1)])^q1 (.rcall 457 [.g 4,.l 2] 0 4 20200)^qe) <| rt 42 (qR 1 13 12^qR 1 25 9^qG 5 z_18^qG 6 z_7^qs 5 12 4 1^qs 6 9 5 3^qe) <| rs 46 (qr 5 0^qr 5 1^qr 5 2^q1 (.mks 1 3 [.int .i64 0] [(0,.l 1),(1,.l 3),(2,.l 5)])^q1 (.rcall 422 [.g 4,.l 6] 0 4 20300)^qe) <| rs 54 (qr 5 3^qr 5 4^q1 (.mks 1 2 [.str []] [(0,.l 1),(1,.l 3)])^q1 (.rcall 457 [.g 4,.l 4] 0 4 20400)^qe) <| rs 60 (qr 5 5^q1 (.rcall 458 [.g 4,.l 1] 0 4 20500)^qe) <| rs 63 (qr 5 6^q1 (.mks 1 1 [.str []] [(0,.l 1)])^q1 (.rcall 457 [.g 4,.l 2] 0 4 20600)^qe) <| rs 67 (qR 5 7 3^q1 (.mks 3 1 z_12 [(0,.l 1)])^q1 (.rcall 421 [.g 4,.l 2] 0 4 20700)^qe) <| rs 71 (qr 5 10^q1 (.mks 1 1 [.str []] [(0,.l 1)])^q1 (.rcall 457 [.g 4,.l 2] 0 4 20800)^qe) <| rs 75 (qr 5 11^qr 6 0^q1 (.mks 1 2 [.int .i64 0] [(0,.l 1),(1,.l 3)])^q1 (.rcall 422 [.g 4,.l 4] 0 4 20900)^qe) <| rs 81 (qR 6 1 3^q1 (.mks 3 1 z_12 [(0,.l 1)])^q1 (.rcall 421 [.g 4,.l 2] 0 4 21000)^qe) <| rs 85 (qr 6 4^q1 (.rcall 458 [.g 4,.l 1] 0 4 21100)^qe) <| rs 88 (qr 6 5^q1 (.mks 1 1 [.str []] [(0,.l 1)])^q1 (.rcall 457 [.g 4,.l 2] 0 4 21200)^qe) <| rs 92 (qr 6 6^qh false^q1 (.mks 1 1 [.int .i64 0] [(0,.l 2)])^q1 (.rcall 422 [.g 4,.l 3] 0 4 21300)^qe) <| sq (rs 97 (qf 6 6^q3 (.load (.v 6) none (.l 0))^qH false^q3 (.mov (ci 0))^qe) <| bk 0 l529_0) <| rs 111 (qr 6 7^q1 (.mks 1 1 [.str []] [(0,.l 1)])^q1 (.rcall 457 [.g 4,.l 2] 0 4 21500)^qe) <| rs 115 (qr 6 8^q1 (.rcall 458 [.g 4,.l 1] 0 4 21600)^qe) <| rs 118 (qr 1 34^qh false^q1 (.mks 1 1 [.int .i64 0] [(0,.l 2)])^q1 (.rcall 422 [.g 4,.l 3] 0 4 21700)^qe) <| sq (rs 123 (qf 1 34^q3 (.load (.v 1) none (.l 0))^qH false^q3 (.mov (ci 0))^qe) <| bk 2 l529_1) <| rs 147 (qr 1 35^qh false^q1 (.mks 1 1 [.int .i64 0] [(0,.l 2)])^q1 (.rcall 422 [.g 4,.l 3] 0 4 22000)^qe) <| rs 152 (qr 1 35^q1 (.rcall 422 [.g 4,.l 1] 0 4 22100)^qe) <| rs 155 (qr 4 0^q1 (.b2s (.l 1))^qv 2^qz 3 0^qe) .ret
def F529 : F := mF 1 [.t 2,.t 3] none c529
def c530 : C := rs 0 (qz 2 0^qe) <| rs 7 (qm 0^q1 (.nilc (.l 0))^qg 0^ql 0^qc 491^q2 6 (.mov (.l 4))^qx 0^qy 1^qY 5 2^qV 3 6^qV 4 7^qV 5 8^qe) <| rs 15 (qm 0^qm 3^qm 4^qm 5^q1 (.rcall 565 [.l 0,.l 1,.l 2,.l 3] 0 0 20000)^qv 2^qe) .ret
def F530 : F := mF 1 [.t 2] none c530
def c531 : C := rs 0 (qz 2 0^qe) <| rs 4 (qm 0^q1 (.rcall 530 [.l 0] 0 0 20000)^qv 3^qe) <| i1 6 (qm 3^qm 0^q1 (.nilc (.l 1))^qg 0^ql 0^qh true^qQ .gtr 0^qe) 12 (rs 13 (qm 0^q1 (.nilc (.l 0))^qg 1^q5 (.store (.v 0) 1 (.l 2) (cb true))^qe) <| rs 0 (qz 2 0^qe) .ret) <| rs 16 (qm 3^qv 2^qe) .ret
def F531 : F := mF 1 [.t 2] none c531
def l532_0 : C := .loop [] [] [6] [] (rs 29 (q3 (.bin .lss (.g 28) (.g 27))^qe) <| sq (cd 29 .skip <| .exit 0) <| sq (bk 1 (rs 31 (qm 0^q1 (.rcall 539 [.l 0] 0 0 20800)^q1 (.call (.k 566) .freeze none [.l 1])^q2 30 (.mov (.l 2))^qx 0^qy 1^qG 6 z_15^qs 6 36 6 4^qV 7 5^qe) <| rs 36 (qm 0^qm 0^q1 (.nilc (.l 1))^qg 1^ql 0^yo^qm 7^qk .neq 0^zo 5^q1 (.nilc (.l 0))^qg 1^qs 0 1 10 8^qe) <| r1 47 (qr 5 8^qb 6 36^q1 (.mks 36 1 z_15 [(0,.l 2)])^q1 (.app 51 36 (.l 1) (.l 3))^qf 5 8^qs 5 1 5 4^qe))) <| r1 53 (q1 (.bin .add (.g 28) (ci 1))^qv 28^qe))
def c532 : C := rs 0 (qG 4 z_9^qe) <| rs 8 (qm 0^q1 (.rcall 530 [.l 0] 0 0 20000)^q1 (.build [.int .i64 0,.int .i64 0,.int .i64 0,.slice 1 [],.int .i64 0,.str [],.str [],.slice 1 [],.nslice 36] [(0,1,.l 1)])^qG 5 z_23^qs 5 9 3 2^qe) <| rs 11 (qm 1^qm 0^q1 (.rcall 530 [.l 1] 0 0 20100)^qm 0^q1 (.rcall 540 [.l 3] 0 0 20200)^qm 0^q1 (.rcall 530 [.l 5] 0 0 20300)^qm 0^q1 (.rcall 539 [.l 7] 0 0 20400)^qm 0^q1 (.rcall 539 [.l 9] 0 0 20500)^qm 0^q1 (.rcall 540 [.l 11] 0 0 20600)^q1 (.build z_3 [(0,1,.l 0),(1,1,.l 2),(2,1,.l 4),(3,1,.l 6),(4,1,.l 8),(5,1,.l 10),(6,1,.l 12)])^qf 5 1^qs 5 7 14 13^qe) <| sq (rs 26 (qm 0^q3 (.rcall 531 [.l 0] 0 0 20700)^q3 (.mov (ci 0))^qe) <| bk 0 l532_0) <| rs 54 (qb 5 9^qt 4 9 0^qe) .ret
def F532 : F := mF 2 [.cell 4 (some 9)] none c532
def c533 : C := rs 0 (qE 2^qe) <| rs 6 (qm 0^qc 487^q2 5 (.mov (.l 1))^qx 0^qy 1^qw 3^qD 4^q1 (.mov (.l 4))^qe) <| rs 10 (qm 3^qv 2^qe) .ret
def F533 : F := mF 1 [.t 2] none c533
def l534_0 : C := .loop [] [] [] [] (lq 8 (qm 4^qm 0^qh false^qQ .lss 0^qe) 11 0 <| sq (bk 1 (r1 14 (qm 3^qm 0^qm 4^qi 1^qj^qc 533^qq .add 0^qv 3^qe))) <| r1 12 (qm 4^qk .add 1^qv 4^qe))
def c534 : C := rs 0 (qE 2^qe) <| rs 5 (qm 0^qh false^qc 533^qv 3^qe) <| sq (rs 0 (qz 4 0^qe) <| bk 0 l534_0) <| rs 21 (qm 3^qv 2^qe) .ret
def F534 : F := mF 1 [.t 2] none c534
def c535 : C := rs 0 (qE 2^qe) <| rs 3 (qm 0^qc 503^qv 2^qe) .ret
def F535 : F := mF 1 [.t 2] none c535
def l536_0 : C := .loop [] [] [] [] (lq 120 (qm 6^qr 4 6^qh false^qQ .lss 0^qe) 124 0 <| sq (bk 1 (r2 127 (qm 5^qr 4 6^qm 6^qi 2^qg 0^qj^qc 488^qq .add 0^qr 4 6^qm 6^qi 2^qg 1^qj^qc 488^qq .add 8^qv 5^qe))) <| r1 125 (qm 6^qk .add 1^qv 6^qe))
def l536_1 : C := .loop [] [] [8] [] (lq 158 (qm 7^qr 1 34^qh false^qQ .lss 0^qe) 162 2 <| sq (bk 3 (rs 165 (qr 1 34^qm 7^qi 5^qJ 5^qG 8 z_0^qs 8 5 5 4^qe) <| r2 170 (qm 5^qf 8 0^qg 0^ql 8^qc 488^qq .add 0^qf 8 0^qg 1^ql 8^qc 488^qq .add 5^qr 8 2^qc 460^qq .add 10^qr 8 3^qc 460^qq .add 14^qr 8 4^qc 460^qq .add 18^qv 5^qe))) <| r1 163 (qm 7^qk .add 1^qv 7^qe))
def l536_2 : C := .loop [] [] [] [] (lq 199 (qm 9^qr 1 35^qh false^qQ .lss 0^qe) 203 4 <| sq (bk 5 (r1 206 (qm 5^qr 1 35^qm 9^qi 1^qj^qc 460^qq .add 0^qv 5^qe))) <| r1 204 (qm 9^qk .add 1^qv 9^qe))
def c536 : C := rs 0 (qB 1 0^qE 2^qe) <| rt 10 (qR 1 13 12^qR 1 25 9^qG 3 z_18^qG 4 z_7^qs 3 12 4 1^qs 4 9 5 3^qe) <| rt 14 (qr 1 0^qc 460^qr 1 1^qc 460^qq .add 2^qr 1 2^qc 460^qq .add 6^qr 1 3^qc 460^qq .add 10^qr 1 4^qc 460^qq .add 14^qr 1 5^qc 460^qq .add 18^qr 1 6^qc 460^qq .add 22^qr 1 7^qc 460^qq .add 26^qr 1 8^qc 460^qq .add 30^qR 1 9 3^qc 459^qq .add 34^qr 1 12^qc 488^qq .add 38^qv 5^qe) <| rt 57 (qm 5^qr 3 0^qc 460^qq .add 0^qr 3 1^qc 460^qq .add 4^qr 3 2^qc 460^qq .add 8^qr 3 3^qc 488^qq .add 12^qr 3 4^qc 488^qq .add 16^qr 3 5^qc 489^qq .add 20^qr 3 6^qc 488^qq .add 24^qR 3 7 3^qc 459^qq .add 28^qr 3 10^qc 488^qq .add 32^qr 3 11^qc 460^qq .add 36^qv 5^qe) <| rt 98 (qm 5^qr 4 0^qc 460^qq .add 0^qR 4 1 3^qc 459^qq .add 4^qr 4 4^qc 489^qq .add 8^qr 4 5^qc 488^qq .add 12^qr 4 6^qh false^qc 460^qq .add 16^qv 5^qe) <| sq (rs 0 (qz 6 0^qe) <| bk 0 l536_0) <| rt 144 (qm 5^qr 4 7^qc 488^qq .add 0^qr 4 8^qc 489^qq .add 4^qr 1 34^qh false^qc 460^qq .add 8^qv 5^qe) <| sq (rs 0 (qz 7 0^qe) <| bk 2 l536_1) <| rs 193 (qm 5^qr 1 35^qh false^qc 460^qq .add 0^qv 5^qe) <| sq (rs 0 (qz 9 0^qe) <| bk 4 l536_2) <| rs 214 (qm 5^qv 2^qe) .ret
def F536 : F := mF 1 [.t 2] none c536
def c539 : C := rs 0 (qE 2^qe) <| rs 7 (qm 0^q1 (.nilc (.l 0))^qg 0^ql 0^qc 506^q2 6 (.mov (.l 4))^qx 0^qy 1^qY 5 2^qV 3 6^qV 4 7^qV 5 8^qe) <| rs 15 (qm 0^qm 3^qm 4^qm 5^q1 (.rcall 567 [.l 0,.l 1,.l 2,.l 3] 0 0 20000)^qv 2^qe) .ret
def F539 : F := mF 1 [.t 2] none c539
def l540_0 : C := .loop [] [] [] [] (rs 7 (q3 (.bin .lss (.g 6) (.g 5))^qe) <| sq (cd 7 .skip <| .exit 0) <| sq (bk 1 (r1 8 (qm 3^qm 0^q1 (.rcall 530 [.l 1] 0 0 20100)^q1 (.mks 1 1 [.int .i64 0] [(0,.l 2)])^q1 (.app 3 1 (.l 0) (.l 3))^qv 3^qe))) <| r1 13 (q1 (.bin .add (.g 6) (ci 1))^qv 6^qe))
def c540 : C := rs 0 (qS 2 1^qe) <| rs 3 (q3 (.mko 1)^qe) <| sq (rs 4 (qm 0^q3 (.rcall 531 [.l 0] 0 0 20000)^q3 (.mov (ci 0))^qe) <| bk 0 l540_0) <| rs 14 (qm 3^qv 2^qe) .ret
def F540 : F := mF 1 [.t 2] none c540
def c552 : C := rs 2 (qB 1 0^q3 (.mov (.c (.niface)))^qe) <| i1 3 (qr 1 0^qK .eql 0^qe) 5 (rs 6 (qR 1 8 29^q1 (.build z_21 [(0,29,.l 1)])^q1 (.mif 163 (.l 2))^qv 2^qe) .ret) <| rs 10 (qR 1 6 2^q1 (.build z_10 [(0,2,.l 1)])^q1 (.mif 165 (.l 2))^qv 2^qe) .ret
def F552 : F := mF 1 [.t 2] none c552
def c554 : C := rs 0 (qB 1 0^qE 2^qe) <| rs 6 (qR 1 0 2^qc 511^q2 5 (.mov (.l 2))^qx 0^qy 1^qw 3^qD 4^q1 (.mov (.l 5))^qe) <| rs 11 (qm 3^qv 2^qe) .ret
def F554 : F := mF 1 [.t 2] none c554
def c555 : C := rs 0 (qB 2 0^qG 4 z_20^qz 5 0^qe) <| rs 9 (qm 1^qc 570^q2 8 (.mov (.l 1))^qx 0^qy 1^qw 6^qw 7^qe) <| i1 13 (qm 7^qK .neq 0^qe) 14 (rs 15 (qb 2 5^qm 7^qt 4 5 0^qw 5^qe) .ret) <| sq (rs 18 (qb 2 5^qm 6^qd 571^q2 17 (.mov (.l 2))^qx 0^qy 1^qt 2 5 4^qw 7^qe) <| rs 23 (qm 7^qK .neq 0^qe) <| cd 24 (rs 25 (qb 2 5^qm 7^qt 4 5 0^qw 5^qe) .ret) .skip) <| rs 27 (qb 2 5^qc 572^qx 0^qy 1^qt 4 5 2^qw 5^qe) .ret
def F555 : F := mF 2 [.cell 4 (some 5),.t 5] none c555
def c556 : C := rs 0 (qB 1 0^qF 2^qe) <| i1 3 (qr 1 0^qk .lss 0^yo^qr 1 0^qk .gtr 3^zo 3^yo^qR 1 1 5^qc 573^qn^zo 8^yo^qb 1 38^qc 574^qn^zO 14^qe) 21 (rs 0 (qF 2^qe) .ret) <| i1 22 (qr 1 0^qK .eql 0^qe) 24 (rs 25 (qR 1 8 29^qc 328^qv 2^qe) .ret) <| rs 28 (qf 1 6^qg 0^ql 1^qr 1 0^qq .eql 2^ya^qR 1 6 2^qc 408^za 6^qv 2^qe) .ret
def F556 : F := mF 1 [.t 2] none c556
def c557 : C := rs 0 (qB 2 0^qG 4 z_20^qe) <| i1 5 (qb 2 5^q3 (.call (.k 573) .no none [.l 0])^qe) 6 (r1 7 (qm 1^qk .geq 0^qm 1^q1 (.mm true (.l 2) (ci 0))^q1 (.mm false (.l 3) (ci 1099511627776))^qf 2 3^qs 2 1 5 1^qf 2 2^qs 2 1 7 4^qe)) <| rs 14 (qb 2 5^qt 4 5 0^qe) .ret
def F557 : F := mF 2 [.cell 4 (some 5)] none c557
def c558 : C := rs 0 (qB 1 0^qz 2 0^qe) <| sq (bk 0 (rs 4 (qb 1 38^qc 556^qn^qv 3^qe) <| cd 3 (rs 0 (qz 2 1^qe) .ret) <| rs 8 (qr 1 37^qn^qv 7^qe) <| cd 7 (rs 0 (qz 2 16^qe) .ret) .skip)) <| rs 0 (qz 2 0^qe) .ret
def F558 : F := mF 1 [.t 2] none c558
def c560 : C := rs 6 (qB 3 0^qB 5 2^q3 (.mov (.c (.niface)))^q3 (.mov (.c (.slice 36 [])))^qe) <| rs 11 (qR 3 0 2^qm 1^qb 5 36^qC 413 (ls [1,2,3])^q2 10 (.mov (.l 4))^qx 0^qy 1^qG 8 z_10^qs 8 2 8 6^qV 9 7^qe) <| rs 18 (qb 8 2^q1 (.build z_10 [(0,2,.l 0)])^q1 (.mif 165 (.l 1))^qm 9^qw 6^qw 7^qe) .ret
def F560 : F := mF 3 [.t 6,.t 7] none c560
def c561 : C := rs 0 (qB 2 0^qG 4 z_19^qz 5 0^qe) <| rs 8 (qm 1^q1 (.inv [(163,553),(165,554)] (.l 0) [])^qv 6^qe) <| i1 10 (qm 6^qb 2 38^qc 552^q1 (.inv [(163,553),(165,554)] (.l 2) [])^qQ .eql 0^qe) 14 (rs 15 (qb 2 38^qt 4 38 0^qz 5 0^qe) .ret) <| rs 0 (qz 7 0^qe) <| sq (rs 16 (qf 2 1^qg 0^ql 2^qh true^qf 2 1^qg 1^ql 2^qh true^qq .add 3^qK .gtr 16384^qe) <| cd 25 (r1 27 (qR 2 1 5^qm 6^qd 575^q2 26 (.mov (.l 3))^qx 0^qy 1^qf 2 1^qs 2 5 7 5^qV 7 6^qe)) <| r1 35 (qR 2 1 5^qm 6^qd 555^q2 34 (.mov (.l 3))^qx 0^qy 1^qf 2 1^qs 2 5 7 5^qV 7 6^qe)) <| i1 42 (qm 7^qK .neq 0^qe) 43 (rs 44 (qm 7^qk .neq 16^qf 2 37^qs 2 1 2 1^qe) <| rs 47 (qb 2 38^qm 7^qt 4 38 0^qw 5^qe) .ret) <| rs 49 (qb 2 38^qm 1^qd 576^qt 4 38 2^qz 5 0^qe) .ret
def F561 : F := mF 2 [.cell 4 (some 38),.t 5] none c561
def c562 : C := rs 0 (qB 3 0^qG 6 z_19^qS 7 36^qz 8 0^qe) <| i1 9 (qm 2^qK .neq 0^qe) 10 (rs 11 (qb 3 38^qm 2^qt 6 38 0^qS 7 36^qV 8 1^qe) .ret) <| rs 13 (qb 3 38^qm 1^qt 6 38 0^qw 7^qz 8 0^qe) .ret
def F562 : F := mF 3 [.cell 6 (some 38),.t 7,.t 8] none c562
def c563 : C := rs 0 (qB 2 0^qG 4 z_20^qe) <| i1 5 (qb 2 5^qc 573^qN^qe) 7 (rs 8 (qb 2 5^qt 4 5 0^qe) .ret) <| rt 9 (qr 2 0^qr 2 1^qm 1^q1 (.mm true (.l 4) (ci 0))^qr 2 1^qh true^q1 (.mm false (.l 5) (.l 8))^q1 (.sl true 0 (.l 3) none (some (.l 9)))^qq .add 1^q1 (.build z_20 [(0,1,.l 11)])^qt 4 5 12^qe) .ret
def F563 : F := mF 2 [.cell 4 (some 5)] none c563
def c564 : C := rs 0 (qB 1 0^qG 2 z_20^qS 3 1^qz 4 0^qe) <| rs 10 (qb 1 5^qc 577^q2 9 (.mov (.l 1))^qx 0^qy 1^qw 5^qw 6^qe) <| i1 14 (qm 6^qK .neq 0^qe) 15 (rs 16 (qb 1 5^qm 6^qt 2 5 0^qS 3 1^qV 4 1^qe) .ret) <| rs 19 (qm 5^qc 578^q2 18 (.mov (.l 1))^qx 0^qy 1^qw 7^qw 8^qe) <| i1 23 (qm 8^qm 5^qh true^qQ .lss 0^qe) 26 (rs 28 (qb 1 5^qm 8^qd 579^q2 27 (.mov (.l 2))^qx 0^qy 1^qt 1 5 4^qw 6^qe) <| rs 33 (qm 6^qK .neq 0^qe) <| cd 34 (rs 35 (qb 1 5^qm 6^qt 2 5 0^qS 3 1^qV 4 1^qe) .ret) .skip) <| rs 37 (qb 1 5^qm 7^qt 2 5 0^qw 3^qz 4 0^qe) .ret
def F564 : F := mF 1 [.cell 2 (some 5),.t 3,.t 4] none c564
def c565 : C := rs 0 (qz 8 0^qe) <| rs 0 (qz 9 0^qe) <| i1 10 (qm 0^q1 (.nilc (.l 0))^qg 1^ql 0^yo^qm 3^qk .neq 0^zO 4^qe) 17 (rs 18 (qm 0^q1 (.nilc (.l 0))^qg 1^q5 (.store (.v 0) 1 (.l 2) (cb true))^qe) <| rs 21 (qm 9^qv 8^qe) .ret) <| rs 22 (qm 0^qm 2^q1 (.nilc (.l 0))^qg 0^qs 0 1 3 1^qe) <| rs 26 (qm 1^qv 8^qe) .ret
def F565 : F := mF 4 [.t 8] none c565
def l566_0 : C := .loop [] [] [] [] (rs 90 (q3 (.bin .lss (.g 89) (.g 88))^qe) <| sq (cd 90 .skip <| .exit 0) <| sq (bk 1 (r2 91 (qr 7 6^qm 4^q1 (.rcall 492 [.l 2] 0 11 22600)^qm 4^q1 (.rcall 492 [.l 4] 0 11 22700)^q1 (.build z_22 [(0,1,.l 3),(1,1,.l 5)])^q1 (.mks 2 1 z_22 [(0,.l 6)])^q1 (.app 99 2 (.l 1) (.l 7))^qf 7 6^qs 7 1 9 8^qe))) <| r1 101 (q1 (.bin .add (.g 89) (ci 1))^qv 89^qe))
def l566_1 : C := .loop [] [] [8] [] (rs 111 (q3 (.bin .lss (.g 110) (.g 109))^qe) <| sq (cd 111 .skip <| .exit 2) <| sq (bk 3 (rs 112 (qm 4^q1 (.rcall 492 [.l 0] 0 11 23100)^qm 4^q1 (.rcall 492 [.l 2] 0 11 23200)^q1 (.build z_22 [(0,1,.l 1),(1,1,.l 3)])^q1 (.build z_0 [(0,2,.l 4)])^qG 8 z_0^qs 8 5 6 5^qe) <| rs 118 (qm 4^q1 (.rcall 465 [.l 0] 0 11 23300)^qm 4^q1 (.rcall 465 [.l 2] 0 11 23400)^qm 4^q1 (.rcall 465 [.l 4] 0 11 23500)^qf 8 2^qs 8 1 6 1^qf 8 3^qs 8 1 8 3^qf 8 4^qs 8 1 10 5^qe) <| r1 127 (qr 5 34^qb 8 5^q1 (.mks 5 1 z_0 [(0,.l 2)])^q1 (.app 131 5 (.l 1) (.l 3))^qf 5 34^qs 5 1 5 4^qe))) <| r1 133 (q1 (.bin .add (.g 110) (ci 1))^qv 110^qe))
def l566_2 : C := .loop [] [] [] [] (rs 137 (q3 (.bin .lss (.g 136) (.g 135))^qe) <| sq (cd 137 .skip <| .exit 4) <| sq (bk 5 (r2 138 (qr 5 35^qm 4^q1 (.rcall 465 [.l 2] 0 11 23700)^q1 (.mks 1 1 [.int .i64 0] [(0,.l 3)])^q1 (.app 143 1 (.l 1) (.l 4))^qf 5 35^qs 5 1 6 5^qe))) <| r1 145 (q1 (.bin .add (.g 136) (ci 1))^qv 136^qe))
def c566 : C := rs 0 (qG 2 z_15^qz 3 0^qe) <| rs 9 (qm 0^q1 (.build z_13 [(0,1,.l 0)])^q1 (.box (.l 1))^qv 4^qe) <| rs 0 (qG 5 z_24^qe) <| rs 0 (qG 6 z_18^qe) <| rs 0 (qG 7 z_25^qe) <| rs 12 (qm 4^q1 (.rcall 465 [.l 0] 0 11 20000)^qm 4^q1 (.rcall 465 [.l 2] 0 11 20100)^qm 4^q1 (.rcall 465 [.l 4] 0 11 20200)^qm 4^q1 (.rcall 465 [.l 6] 0 11 20300)^qm 4^q1 (.rcall 465 [.l 8] 0 11 20400)^qf 5 0^qs 5 1 10 1^qf 5 1^qs 5 1 12 3^qf 5 2^qs 5 1 14 5^qf 5 3^qs 5 1 16 7^qf 5 4^qs 5 1 18 9^qe) <| rs 27 (qm 4^q1 (.rcall 465 [.l 0] 0 11 20500)^qm 4^q1 (.rcall 465 [.l 2] 0 11 20600)^qm 4^q1 (.rcall 465 [.l 4] 0 11 20700)^qm 4^q1 (.rcall 465 [.l 6] 0 11 20800)^qf 5 5^qs 5 1 8 1^qf 5 6^qs 5 1 10 3^qf 5 7^qs 5 1 12 5^qf 5 8^qs 5 1 14 7^qe) <| rs 39 (qm 4^q1 (.rcall 464 [.l 0] 0 11 20900)^qm 4^q1 (.rcall 492 [.l 2] 0 11 21000)^qf 5 9^qs 5 3 4 1^qf 5 12^qs 5 1 6 3^qe) <| rs 45 (qm 4^q1 (.rcall 465 [.l 0] 0 11 21100)^qm 4^q1 (.rcall 465 [.l 2] 0 11 21200)^qm 4^q1 (.rcall 465 [.l 4] 0 11 21300)^qf 6 0^qs 6 1 6 1^qf 6 1^qs 6 1 8 3^qf 6 2^qs 6 1 10 5^qe) <| rs 54 (qm 4^q1 (.rcall 492 [.l 0] 0 11 21400)^qm 4^q1 (.rcall 492 [.l 2] 0 11 21500)^qm 4^q1 (.rcall 493 [.l 4] 0 11 21600)^qm 4^q1 (.rcall 492 [.l 6] 0 11 21700)^qf 6 3^qs 6 1 8 1^qf 6 4^qs 6 1 10 3^qf 6 5^qs 6 1 12 5^qf 6 6^qs 6 1 14 7^qe) <| rs 66 (qm 4^q1 (.rcall 464 [.l 0] 0 11 21800)^qm 4^q1 (.rcall 492 [.l 2] 0 11 21900)^qm 4^q1 (.rcall 465 [.l 4] 0 11 22000)^qf 6 7^qs 6 3 6 1^qf 6 10^qs 6 1 8 3^qf 6 11^qs 6 1 10 5^qe) <| rs 75 (qm 4^q1 (.rcall 465 [.l 0] 0 11 22100)^qm 4^q1 (.rcall 464 [.l 2] 0 11 22200)^qm 4^q1 (.rcall 493 [.l 4] 0 11 22300)^qm 4^q1 (.rcall 492 [.l 6] 0 11 22400)^qf 7 0^qs 7 1 8 1^qf 7 1^qs 7 3 10 3^qf 7 4^qs 7 1 12 5^qf 7 5^qs 7 1 14 7^qe) <| sq (rs 87 (qm 4^q3 (.rcall 466 [.l 0] 0 11 22500)^q3 (.mov (ci 0))^qe) <| bk 0 l566_0) <| rs 102 (qm 4^q1 (.rcall 492 [.l 0] 0 11 22800)^qm 4^q1 (.rcall 493 [.l 2] 0 11 22900)^qf 7 7^qs 7 1 4 1^qf 7 8^qs 7 1 6 3^qe) <| sq (rs 108 (qm 4^q3 (.rcall 466 [.l 0] 0 11 23000)^q3 (.mov (ci 0))^qe) <| bk 2 l566_1) <| sq (rs 134 (qm 4^q3 (.rcall 466 [.l 0] 0 11 23600)^q3 (.mov (ci 0))^qe) <| bk 4 l566_2) <| rt 146 (qb 6 12^qb 7 9^qf 5 13^qs 5 12 2 0^qf 5 25^qs 5 9 4 1^qe) <| i1 150 (qm 4^q1 (.nilc (.l 0))^qg 1^ql 11^yo^qm 4^q1 (.nilc (.l 5))^qg 0^ql 11^q1 (.bin .neq (.l 8) (.c (.str [])))^zo 4^yo^qb 5 36^q1 (.call (.k 341) .borrow none [.l 12])^qn^zO 11^qe) 165 (rs 166 (q1 (.build z_15 [])^qt 2 36 0^qz 3 3^qe) .ret) <| rs 167 (qb 5 36^qt 2 36 0^qz 3 0^qe) .ret
def F566 : F := mF 1 [.cell 2 (some 36),.t 3] none c566
def c567 : C := rs 0 (qE 8^qe) <| rs 0 (qE 9^qe) <| i1 10 (qm 0^q1 (.nilc (.l 0))^qg 1^ql 0^yo^qm 3^qk .neq 0^zO 4^qe) 17 (rs 18 (qm 0^q1 (.nilc (.l 0))^qg 1^q5 (.store (.v 0) 1 (.l 2) (cb true))^qe) <| rs 21 (qm 9^qv 8^qe) .ret) <| rs 22 (qm 0^qm 2^q1 (.nilc (.l 0))^qg 0^qs 0 1 3 1^qe) <| rs 26 (qm 1^qv 8^qe) .ret
def F567 : F := mF 4 [.t 8] none c567
def c570 : C := rs 0 (qE 2^qz 3 0^qe) <| i1 4 (qm 0^qh true^qK .gtr 1048576^qe) 6 (rs 0 (qE 2^qz 3 5^qe) .ret) <| rs 7 (qm 0^qc 484^qc 580^qv 2^qz 3 0^qe) .ret
def F570 : F := mF 1 [.t 2,.t 3] none c570
def c571 : C := rs 0 (qB 2 0^qG 4 z_20^qz 5 0^qe) <| sq (rs 8 (qb 2 5^qc 581^qv 6^qe) <| rs 10 (qm 6^qK .neq 0^qe) <| cd 11 (rs 12 (qb 2 5^qm 6^qt 4 5 0^qw 5^qe) .ret) .skip) <| i1 14 (qm 1^qh true^qr 2 0^qh true^q1 (.bin .sub (ci 1048576) (.l 4))^qr 2 1^qh true^qq .sub 5^qQ .gtr 1^qe) 24 (rs 25 (qb 2 5^qt 4 5 0^qz 5 6^qe) .ret) <| rs 27 (qb 2 5^qc 582^q2 26 (.mov (.l 1))^qx 0^qy 1^qt 2 5 3^qw 7^qe) <| i1 31 (qm 7^qN^qe) 32 (rs 33 (qb 2 5^qt 4 5 0^qz 5 16^qe) .ret) <| rs 34 (qr 2 1^qm 1^qq .add 1^qf 2 1^qs 2 1 4 3^qe) <| rs 39 (qb 2 5^qt 4 5 0^qz 5 0^qe) .ret
def F571 : F := mF 2 [.cell 4 (some 5),.t 5] none c571
def c572 : C := rs 0 (qB 1 0^qG 2 z_20^qz 3 0^qe) <| sq (rs 6 (qb 1 5^qc 581^qv 4^qe) <| rs 8 (qm 4^qK .neq 0^qe) <| cd 9 (rs 10 (qb 1 5^qm 4^qt 2 5 0^qw 3^qe) .ret) .skip) <| rs 13 (qb 1 5^qc 582^q2 12 (.mov (.l 1))^qx 0^qy 1^qt 1 5 3^qw 5^qe) <| i1 17 (qm 5^qN^qe) 18 (rs 19 (qb 1 5^qt 2 5 0^qz 3 16^qe) .ret) <| rs 20 (qr 1 0^qr 1 1^qq .add 1^qf 1 0^qs 1 1 5 4^qf 1 1^q5 (.store (.v 1) 1 (.l 7) (.c (.str [])))^qe) <| rs 27 (qb 1 5^qt 2 5 0^qz 3 0^qe) .ret
def F572 : F := mF 1 [.cell 2 (some 5),.t 3] none c572
def c573 : C := rs 0 (qB 1 0^qF 2^qe) <| rs 3 (qr 1 0^qh true^qr 1 1^qh true^qq .add 2^qk .leq 1048576^ya^qr 1 2^qk .geq 0^za 8^ya^qr 1 2^qk .leq 1099511627776^za 13^ya^qr 1 3^yo^qr 1 2^qk .eql 0^y1 18^qo 21^za 18^qv 2^qe) .ret
def F573 : F := mF 1 [.t 2] none c573
def c574 : C := rs 0 (qB 1 0^qF 2^qe) <| i1 5 (qr 1 0^qK .eql 0^qe) 7 (rs 8 (qf 1 6^qg 0^ql 1^qk .eql 0^ya^qf 1 6^qg 1^ql 1^qh false^qk .eql 0^za 4^qv 2^qe) .ret) <| rs 19 (q1 (.build z_21 [])^qG 3 z_21^qs 3 29 1 0^qe) <| rs 20 (qR 1 8 29^qG 4 z_21^qs 4 29 2 1^qe) <| rs 22 (qr 4 0^qh false^qr 4 1^qh false^qq .add 2^qr 4 3^qh false^qq .add 6^qr 4 4^qh false^qq .add 10^qr 4 28^qh false^qq .add 14^qk .eql 0^ya^qr 4 2^qk .eql 0^za 20^ya^qR 4 5 3^qR 3 5 3^q1 (.eqa false [.i,.i,.i] (.l 27) (.l 29))^za 25^ya^qR 4 8 20^qc 583^za 32^qv 2^qe) .ret
def F574 : F := mF 1 [.t 2] none c574
def c577 : C := rs 0 (qB 1 0^qE 2^qz 3 0^qe) <| sq (rs 5 (qb 1 5^qc 581^qv 4^qe) <| rs 7 (qm 4^qK .neq 0^qe) <| cd 8 (rs 9 (qm 4^qE 2^qw 3^qe) .ret) .skip) <| rs 10 (qr 1 0^qr 1 1^qq .add 1^qv 2^qz 3 0^qe) .ret
def F577 : F := mF 1 [.t 2,.t 3] none c577
def l578_0 : C := .loop [] [] [] [] (bk 1 (rs 11 (qm 5^qc 585^q2 10 (.mov (.l 1))^qx 0^qy 1^qY 2 2^qV 6 3^qV 7 4^qV 8 5^qe) <| i1 16 (qm 8^qK .neq 0^qe) 17 (rs 18 (qm 4^qm 0^qh true^qm 5^qh true^qq .sub 2^qV 2 0^qw 3^qe) .ret) <| r1 24 (qm 4^qm 6^q1 (.mks 1 1 [.str []] [(0,.l 1)])^q1 (.app 4 1 (.l 0) (.l 2))^qm 7^qw 4^qw 5^qe)))
def c578 : C := rs 0 (qS 2 1^qz 3 0^qe) <| rs 4 (q3 (.mko 1)^qe) <| rs 9 (qm 0^qv 5^qe) <| bk 0 l578_0
def F578 : F := mF 1 [.t 2,.t 3] none c578
def c580 : C := rs 0 (qE 2^qe) <| rs 4 (qm 0^qc 586^qv 3^qe) <| rs 6 (qm 0^qm 3^q1 (.conv (.int .u8) (.l 1))^qm 3^q1 (.sh .shr (.l 3) (.c (.int .u64 8)))^q1 (.conv (.int .u8) (.l 4))^qm 3^q1 (.sh .shr (.l 6) (.c (.int .u64 16)))^q1 (.conv (.int .u8) (.l 7))^qm 3^q1 (.sh .shr (.l 9) (.c (.int .u64 24)))^q1 (.conv (.int .u8) (.l 10))^q1 (.mks 1 4 [.int .u8 0] [(0,.l 2),(1,.l 5),(2,.l 8),(3,.l 11)])^q1 (.b2s (.l 12))^qq .add 0^qv 2^qe) .ret
def F580 : F := mF 1 [.t 2] none c580
def c581 : C := rs 0 (qB 1 0^qz 2 0^qe) <| sq (bk 0 (rs 4 (qb 1 5^qc 573^qn^qv 3^qe) <| cd 3 (rs 0 (qz 2 1^qe) .ret) <| rs 8 (qr 1 4^qv 7^qe) <| cd 7 (rs 0 (qz 2 16^qe) .ret) .skip)) <| rs 0 (qz 2 0^qe) .ret
def F581 : F := mF 1 [.t 2] none c581
def c582 : C := rs 0 (qB 1 0^qG 2 z_20^qF 3^qe) <| sq (bk 0 (rs 5 (qr 1 3^ya^qr 1 2^qk .eql 0^za 2^qv 4^qe) <| cd 4 (rs 12 (qf 1 4^q5 (.store (.v 1) 1 (.l 0) (cb true))^qe) <| rs 13 (qb 1 5^qt 2 5 0^qF 3^qe) .ret) <| rs 15 (qr 1 3^qv 14^qe) <| cd 14 (r1 17 (qr 1 2^qk .sub 1^qf 1 2^qs 1 1 3 2^qe)) .skip)) <| rs 21 (qb 1 5^qt 2 5 0^qT 3^qe) .ret
def F582 : F := mF 1 [.cell 2 (some 5),.t 3] none c582
def c583 : C := rs 0 (qB 1 0^qF 2^qe) <| rs 3 (qr 1 0^qk .eql 0^ya^qr 1 1^qk .eql 0^za 3^ya^qr 1 2^qk .eql 0^za 8^ya^qr 1 3^qk .eql 0^za 13^ya^qr 1 4^qk .eql 0^za 18^ya^qr 1 5^qk .eql 0^za 23^ya^qr 1 6^qk .eql 0^za 28^ya^qr 1 7^qk .eql 0^za 33^ya^qr 1 8^q1 (.bin .eql (.l 40) (.c (.str [])))^za 38^ya^qr 1 9^qh false^qr 1 15^qh false^qq .add 46^qr 1 19^qh false^qq .add 50^qk .eql 0^za 43^ya^qr 1 10^qk .eql 0^za 57^ya^qr 1 11^qk .eql 0^za 62^ya^qr 1 12^qk .eql 0^za 67^ya^qR 1 13 2^q1 (.build z_22 [])^q1 (.eqa false [.s,.s] (.l 74) (.l 75))^za 72^ya^qR 1 16 3^q1 (.build z_12 [])^q1 (.eqa false [.i,.i,.i] (.l 80) (.l 81))^za 78^qv 2^qe) .ret
def F583 : F := mF 1 [.t 2] none c583
def c585 : C := rs 0 (qE 2^qE 3^qz 4 0^qe) <| rs 12 (qm 0^qc 491^q2 11 (.mov (.l 1))^qx 0^qy 1^qY 2 2^qV 5 3^qV 6 4^qV 7 5^qe) <| sq (bk 0 (rs 18 (qm 7^qk .neq 0^qv 17^qe) <| cd 17 (rs 20 (qm 7^qE 2^qE 3^qV 4 0^qe) .ret) <| rs 22 (qm 5^qk .gtr 1048576^qv 21^qe) <| cd 21 (rs 0 (qE 2^qE 3^qz 4 3^qe) .ret) <| rs 25 (qm 6^qh true^qm 5^qk .add 4^qq .lss 1^qv 24^qe) <| cd 24 (rs 0 (qE 2^qE 3^qz 4 2^qe) .ret) .skip)) <| rs 30 (qm 0^qh true^qm 6^qh true^qq .sub 1^qm 5^qq .add 4^qk .add 4^qv 8^qe) <| sq (rs 39 (qm 0^qm 8^q1 (.sl true 0 (.l 0) none (some (.l 1)))^qc 587^q2 38 (.mov (.l 3))^qx 0^qy 1^qD 9^q1 (.mov (.l 5))^q3 (.mov (.l 6))^qe) <| rs 45 (qm 10^qK .neq 0^qe) <| cd 46 (rs 47 (qm 10^qE 2^qE 3^qV 4 0^qe) .ret) .skip) <| rt 48 (qm 6^qm 5^q1 (.sl true 0 (.l 0) none (some (.l 1)))^qm 0^qm 8^q1 (.sl true 0 (.l 3) (some (.l 4)) none)^qV 2 2^qw 3^qz 4 0^qe) .ret
def F585 : F := mF 1 [.t 2,.t 3,.t 4] none c585
def l586_1 : C := .loop [] [] [] [] (rs 17 (q3 (.bin .lss (.g 16) (ci 8))^qe) <| sq (cd 17 .skip <| .exit 2) <| sq (bk 3 (r1 18 (qm 3^q1 (.sh .shr (.l 0) (.c (.int .u64 1)))^qm 3^q1 (.bin .and (.l 2) (.c (.int .u32 1)))^q1 (.un .neg (.l 3))^q1 (.bin .and (.c (.int .u32 2197175160)) (.l 4))^qq .xor 1^qv 3^qe))) <| r1 25 (q1 (.bin .add (.g 16) (ci 1))^qv 16^qe))
def l586_0 : C := .loop [] [] [] [] (rs 8 (q3 (.bin .lss (.g 7) (.g 6))^qe) <| sq (cd 8 .skip <| .exit 0) <| sq (bk 1 (rs 9 (qm 7^qv 4^qe) <| rs 10 (qm 3^qm 0^qm 4^q1 (.idx (.l 1) (.l 2))^q1 (.conv (.int .u32) (.l 3))^qq .xor 0^qv 3^qe) <| rs 0 (qz 16 0^qe) <| bk 2 l586_1)) <| r1 26 (q1 (.bin .add (.g 7) (ci 1))^qv 7^qe))
def c586 : C := rs 2 (q3 (.mov (.c (.int .u32 0)))^qe) <| rs 3 (q3 (.mov (.c (.int .u32 4294967295)))^qe) <| sq (rs 5 (qm 0^qH true^q3 (.mov (ci 0))^qe) <| bk 0 l586_0) <| rs 27 (qm 3^q1 (.un .xor (.l 0))^qv 2^qe) .ret
def F586 : F := mF 1 [.t 2] none c586
def c587 : C := rs 0 (qE 2^qz 3 0^qe) <| rs 5 (qm 0^qh true^qk .sub 4^qv 4^qe) <| sq (bk 0 (rs 9 (qm 4^qk .lss 0^qv 8^qe) <| cd 8 (rs 0 (qE 2^qz 3 2^qe) .ret) <| rs 12 (qm 0^qm 4^q1 (.sl true 0 (.l 0) none (some (.l 1)))^qc 580^qm 0^qq .neq 3^qv 11^qe) <| cd 11 (rs 0 (qE 2^qz 3 4^qe) .ret) .skip)) <| rs 18 (qm 0^qm 4^q1 (.sl true 0 (.l 0) none (some (.l 1)))^qv 2^qz 3 0^qe) .ret
def F587 : F := mF 1 [.t 2,.t 3] none c587
attribute [go_sem] c508 F508 c509 F509 c510 F510 c511 F511 c512 F512 c513 F513 c522 F522 c523 F523 c524 F524 c525 F525 c526 F526 c527 F527 c528 F528 c529 F529 c530 F530 c531 F531 c532 F532 c533 F533 c534 F534 c535 F535 c536 F536 c539 F539 c540 F540 c552 F552 c554 F554 c555 F555 c556 F556 c557 F557 c558 F558 c560 F560 c561 F561 c562 F562 c563 F563 c564 F564 c565 F565 c566 F566 c567 F567 c570 F570 c571 F571 c572 F572 c573 F573 c574 F574 c577 F577 c578 F578 c580 F580 c581 F581 c582 F582 c583 F583 c585 F585 c586 F586 c587 F587
end Sg
namespace Sg
open _root_.Go _root_.Go.RowKit _root_.Go.Proofs _root_.Go.Shelf
def renU:Shelf.Ren:=⟨fun|197=>210|260=>214|n=>n,fun|0=>0|3=>3|4=>4|5=>5|9=>9|21=>21|46=>185|105=>271|119=>274|138=>276|139=>277|n=>n,fun|3=>0|4=>1|n=>n⟩
set_option maxRecDepth 1000000 in
theorem lays197:Lays.n197 Tryz.prog renU where
 mixed:=by kernel_rfl
 f197:=Tryz.func210.trans (congrArg some (by kernel_rfl))
 f260:=Tryz.func214.trans (congrArg some (by kernel_rfl))
 t0:=Tryz.underlying0
 a0:=Tryz.isAgg0
 z0:=Tryz.sizeOf0
 v0:=Tryz.zeroValue0
 t3:=Tryz.underlying3
 a3:=Tryz.isAgg3
 z3:=Tryz.sizeOf3
 v3:=Tryz.zeroValue3
 t4:=Tryz.underlying4
 a4:=Tryz.isAgg4
 z4:=Tryz.sizeOf4
 v4:=Tryz.zeroValue4
 t5:=Tryz.underlying5
 a5:=Tryz.isAgg5
 z5:=Tryz.sizeOf5
 v5:=Tryz.zeroValue5
 t9:=Tryz.underlying9
 a9:=Tryz.isAgg9
 z9:=Tryz.sizeOf9
 v9:=Tryz.zeroValue9
 t21:=Tryz.underlying21
 a21:=Tryz.isAgg21
 z21:=Tryz.sizeOf21
 v21:=Tryz.zeroValue21
 t46:=Tryz.underlying185
 a46:=Tryz.isAgg185
 z46:=Tryz.sizeOf185
 v46:=Tryz.zeroValue185
 t105:=Tryz.underlying271
 a105:=Tryz.isAgg271
 z105:=Tryz.sizeOf271
 v105:=Tryz.zeroValue271
 t119:=Tryz.underlying274
 a119:=Tryz.isAgg274
 z119:=Tryz.sizeOf274
 t138:=Tryz.underlying276
 a138:=Tryz.isAgg276
 z138:=Tryz.sizeOf276
 v138:=Tryz.zeroValue276
 t139:=Tryz.underlying277
 a139:=Tryz.isAgg277
 z139:=Tryz.sizeOf277
 v139:=Tryz.zeroValue277
 g3:=by kernel_rfl
 g4:=by kernel_rfl
def dec_walk (s:ByteArray) (w:World) (hT:Lib.Utf8Tabs 0 1 w) :
  Calls Tryz.prog 210 #[.string s] w fun e w'=>e=.returned (.tuple #[.int .i32 (Lib.decodeGo s).1,.int .i64 (Lib.decodeGo s).2])/\Below w.heap.size w w':=
 Any.utf8_DecodeRuneInString lays197 s w hT
def tabs_st (w w':World) (h:Lib.Utf8Tabs 0 1 w) (hb:∀b,b<2->w'.heap[b]?=w.heap[b]?):Lib.Utf8Tabs 0 1 w':=by
 have e:∀b o,b<2->w'.cell? ⟨b,o,none⟩=w.cell? ⟨b,o,none⟩:=fun b o hlt=>by
  simp only[World.cell?,hb b hlt]
 exact⟨fun c hc=>by rw[e _ _ (by decide)];exact h.1 c hc,fun i hi=>by rw[e _ _ (by decide),e _ _ (by decide)];exact h.2 i hi⟩
def cxU (l:List (Nat×Nat)):Cx where
 fm:=fun n=>(look l n).getD 0
 tm:=fun n=>n
 gn:=2
 G:=Lib.Utf8Tabs 0 1
 Gst:=tabs_st
set_option maxRecDepth 1000000 in
theorem key_walk (s:ByteArray) (w:World) (hgn:2<=w.heap.size) (hT:Lib.Utf8Tabs 0 1 w)
  (hplain:∀(r n:Int) (w:World),2<=w.heap.size->Lib.Utf8Tabs 0 1 w->Calls Tryz.prog 211 #[.int .i32 r,.int .i64 n] w fun e w'=>e=.returned (.bool (dk r n))/\Below w.heap.size w w') :
  Calls Tryz.prog 198 #[.string s] w fun e w'=>e=.returned (.bool (cM s.data.toList))/\Below w.heap.size w w':=by
 have t0:=Tryz.underlying0;have t3:=Tryz.underlying3;have t4:=Tryz.underlying4;have t9:=Tryz.underlying9;have t21:=Tryz.underlying21
 have hu0:=run_underlying t0;have hu3:=run_underlying t3;have hu4:=run_underlying t4;have hu9:=run_underlying t9;have hu21:=run_underlying t21
 have mixed:Tryz.prog.follows .mixedOrders=true:=by kernel_rfl
 have a0:=Tryz.isAgg0;have z0:=Tryz.sizeOf0;have v0:=Tryz.zeroValue0
 have a3:=Tryz.isAgg3;have z3:=Tryz.sizeOf3;have v3:=Tryz.zeroValue3
 have a4:=Tryz.isAgg4;have z4:=Tryz.sizeOf4;have v4:=Tryz.zeroValue4
 have a9:=Tryz.isAgg9;have z9:=Tryz.sizeOf9;have v9:=Tryz.zeroValue9
 have a21:=Tryz.isAgg21;have z21:=Tryz.sizeOf21;have v21:=Tryz.zeroValue21
 go_enter Tryz.func198,Tryz.ntmps198
 go_wp2
 go_loopw [3] (fun _ wr=>∃(pos fuel:Nat),wr.heap[w.heap.size]?=some (.stringIter s pos)/\Below w.heap.size w wr/\bx fuel (s.data.toList.drop pos)=bx s.size s.data.toList/\s.size<=pos+fuel) (fun _ wr=>s.size-wr.iterPos w.heap.size)
 case atStart=>
  refine⟨0,s.size,?_,(Below.refl _ w).alloc (Nat.le_refl _) _,by simp,by omega⟩
  have:=World.iter_heap w s 0
  simpa using this
 case round=>
  obtain⟨pos,fuel,hit,hbw,hacc,hfu⟩:=hrel
  have hsz:w.heap.size<wr.heap.size:=(Array.getElem?_eq_some_iff.1 hit).1
  have hbT:∀W:World,Below w.heap.size w W->Lib.Utf8Tabs 0 1 W:=fun W h=>tabs_st w W hT fun b hb=>h.block b (by omega)
  by_cases hp:pos<s.size
  ·have hnx:∀ty,(Instr.next (.pointer (some ⟨w.heap.size,0,none⟩)) true ty).run Tryz.prog wr=_:=fun ty=>Lib.run_next_any_at wr w.heap.size s pos ty hit hp
   have hbw2:=Lib.below_iterAt hbw (k:=w.heap.size) (by omega) s (pos+(Utf8.decode s pos).2)
   have hit2:=Lib.iterAt_heap wr w.heap.size s pos (pos+(Utf8.decode s pos).2) hit
   have hsz2:w.heap.size+1<=(wr.iterAt w.heap.size s (pos+(Utf8.decode s pos).2)).heap.size:=by rw[Lib.iterAt_size];omega
   have hde:∀n,n=s.size->Lib.decodeGo (s.extract pos n)=Utf8.decode s pos:=fun n hn=>fw s pos n hn hp
   have hw1:=jp s pos
   obtain⟨f,rfl⟩:∃f,fuel=f+1:=⟨fuel-1,by omega⟩
   have hnil:s.data.toList.drop pos≠[]:=fun e=>by
    exact lY s pos hp e
   have hdN:=dX s pos
   simp only[bx,hnil,if_false,<-hdN] at hacc
   generalize Utf8.decode s pos=D at *
   clear hdN hnil
   obtain⟨D1,D2⟩:=D
   simp only at hw1 hacc hbw2 hit2 hsz2 hde hnx
   have hsl:=eZ s
   have hfin:∀W:World,dk D1 D2=false->cM s.data.toList=false:=fun W hpl=>by
    rw[hpl,Bool.false_and] at hacc;rw[cM,hsl,<-hacc,Bool.false_and]
   clear hsl
   go_wp2_with (go_at_call 210;refine (dec_walk _ _ (hbT _ hbw2)).mono ?_;rintro e W1 ⟨rfl,b1⟩)
   have hb3:=hbw2.trans (b1.mono (by omega))
   have hs3:W1.heap.size>=w.heap.size+1:=Nat.le_trans hsz2 b1.size
   have hit3:W1.heap[w.heap.size]?=some (.stringIter s (pos+D2)):=(b1.block _ (by omega)).trans hit2
   have hpl:=hplain D1 D2 W1 (by omega) (hbT _ hb3)
   cases hP:dk D1 D2 with
   |false=>
    rw[hP] at hpl
    have hke:=hfin w hP
    clear hacc hfin
    go_wp2_with (go_at_call 211;refine hpl.mono ?_;rintro e W2 ⟨rfl,b2⟩)
    have hb4:=hb3.trans (b2.mono (by omega))
    go_wp2
    go_ret
    rw[hke]
    exact⟨rfl,hb4⟩
   |true=>
    rw[hP,Bool.true_and,List.drop_drop] at hacc
    rw[hP] at hpl
    clear hfin
    obtain⟨kk,hkk⟩:∃kk,kk=bx s.size s.data.toList:=⟨_,rfl⟩
    go_wp2_with (go_at_call 211;refine hpl.mono ?_;rintro e W2 ⟨rfl,b2⟩)
    have hb4:=hb3.trans (b2.mono (by omega))
    have hit4:W2.heap[w.heap.size]?=some (.stringIter s (pos+D2)):=(b2.block _ (by omega)).trans hit3
    go_wp2
    go_roundw
    case rel=>exact⟨pos+D2,f,hit4,hb4,hacc,by omega⟩
    case measure=>
     simp only[World.iterPos,hit4,hit]
     omega
  ·have hnx:∀ty,(Instr.next (.pointer (some ⟨w.heap.size,0,none⟩)) true ty).run Tryz.prog wr=_:=fun ty=>Lib.run_next_end_at wr w.heap.size s pos ty hit hp
   have hall:bx s.size s.data.toList=true:=by
    rw[<-hacc,List.drop_eq_nil_of_le (by rw[eZ];omega)];cases fuel<;>simp[bx]
   have hkey:cM s.data.toList=(decide ((1:Int)<=s.size)&&decide ((s.size:Int)<=16)):=by
    rw[cM,eZ,hall,Bool.true_and]
    congr 1<;>exact decide_eq_decide.2 (by omega)
   clear hacc hall
   by_cases h1:(1:Int)<=s.size
   ·rw[decide_eq_true h1,Bool.true_and] at hkey
    go_wp2
    go_ret
    exact⟨by first|rfl|(rw[hkey];rfl),hbw⟩
   ·rw[decide_eq_false h1,Bool.false_and] at hkey
    go_wp2
    go_ret
    exact⟨by first|rfl|(rw[hkey];rfl),hbw⟩
end Sg
namespace Sg
open Go.Proofs
open _root_.Go
def noQ:List V->Option V:=fun _=>none
def nodeFm:List (Nat×Nat):=[(508,3),(509,4),(404,5),(510,6),(511,7),(405,8),(512,9),(513,10),(399,11),(339,12),(522,13),(523,15),(524,14),(525,16),(408,17),(526,18),(527,19),(528,20),(529,21),(425,22),(37,23),(426,24),(414,25),(530,26),(531,27),(532,28),(533,29),(534,30),(535,31),(536,32),(45,33),(360,34),(327,35),(395,36),(552,38),(553,231),(554,309),(555,37),(556,42),(557,43),(558,39),(559,232),(560,310),(561,40),(562,41),(563,45),(564,44),(517,46),(368,47),(39,48),(430,49),(41,50),(431,52),(432,51),(456,54),(484,55),(341,53),(422,56),(421,57),(457,58),(458,59),(411,60),(60,61),(61,62),(62,63),(38,64),(42,65),(445,66),(24,67),(491,68),(565,69),(540,70),(539,71),(566,72),(487,73),(503,74),(460,75),(459,76),(488,77),(489,78),(70,79),(372,80),(154,81),(345,82),(397,84),(401,83),(43,85),(516,234),(570,86),(571,87),(572,88),(573,91),(574,92),(328,93),(340,235),(413,312),(575,89),(576,90),(577,94),(578,95),(579,96),(541,97),(542,98),(543,99),(63,100),(64,101),(65,102),(66,104),(67,103),(68,105),(428,106),(40,107),(468,108),(366,109),(367,110),(28,111),(455,112),(485,113),(434,114),(435,115),(436,116),(246,117),(424,118),(505,119),(506,120),(567,121),(465,122),(464,123),(492,124),(493,125),(466,126),(502,127),(486,128),(504,129),(101,130),(153,131),(249,132),(423,133),(537,236),(538,230),(580,135),(581,136),(582,137),(583,139),(141,140),(126,141),(346,142),(347,143),(348,144),(357,238),(121,239),(361,240),(362,241),(363,242),(364,243),(365,244),(355,245),(437,313),(438,314),(427,315),(439,316),(440,317),(441,318),(15,189),(261,320),(442,319),(443,321),(444,322),(584,138),(585,145),(507,146),(568,147),(490,148),(569,149),(75,150),(76,151),(467,152),(32,153),(483,154),(469,155),(470,156),(471,157),(472,158),(293,159),(245,160),(300,161),(461,162),(244,163),(301,164),(284,165),(586,166),(162,167),(163,168),(164,170),(165,169),(166,171),(369,172),(133,246),(21,250),(109,251),(375,253),(186,182),(376,254),(377,255),(379,257),(159,259),(381,260),(370,261),(371,262),(57,323),(429,324),(473,325),(54,326),(462,328),(463,327),(474,329),(240,330),(247,331),(475,332),(26,205),(27,204),(47,333),(476,334),(477,335),(262,336),(256,337),(258,338),(265,339),(478,340),(253,341),(266,342),(267,343),(270,344),(271,345),(273,346),(275,347),(587,173),(494,174),(495,175),(292,176),(167,177),(204,178),(80,179),(142,180),(6,181),(203,183),(81,184),(298,186),(299,185),(316,188),(313,190),(185,191),(138,264),(139,263),(128,265),(129,266),(130,267),(113,268),(131,269),(192,199),(383,271),(384,270),(145,274),(120,275),(177,276),(156,277),(157,278),(148,279),(74,348),(71,349),(496,350),(73,353),(72,354),(499,355),(285,356),(286,357),(287,358),(171,187),(288,359),(289,360),(290,361),(291,362),(500,363),(31,213),(501,364),(217,366),(304,367),(303,368),(302,369),(308,370),(178,287),(309,371),(211,372),(311,373),(213,374),(91,375),(168,192),(187,193),(4,194),(95,195),(96,196),(169,197),(7,200),(97,201),(98,202),(315,203),(137,281),(191,211),(172,284),(175,286),(314,378),(82,379),(84,380),(200,381),(88,382),(312,383),(206,384),(17,385),(220,388),(221,389),(188,206),(189,207),(195,208),(5,209),(22,212),(193,294),(194,297),(319,391),(320,392),(100,393),(3,394),(10,398),(12,399),(25,400),(225,404),(226,405),(105,409),(106,408),(29,414),(30,415),(69,134),(179,237),(134,248),(136,247),(373,249),(374,252),(378,256),(380,258),(170,198),(385,272),(386,273),(382,280),(497,351),(498,352),(307,365),(190,210),(135,285),(180,288),(181,289),(317,386),(318,387),(222,395),(102,396),(103,397),(23,401),(227,406)]
def nodeT0:List (Nat×Fn):=[(508,.code F508),(509,.code F398),(404,.code F404),(510,.code F510),(511,.code F511),(405,.code F405),(512,.code F512),(513,.code F513),(399,.code F399),(339,.code F339),(522,.code F522),(523,.code F523)]
def nodeT1:List (Nat×Fn):=[(524,.code F524),(525,.code F525),(408,.code F408),(526,.codeR F422 0),(527,.codeR F527 0),(528,.codeR F457 0),(529,.code F529),(425,.code F425),(37,.code F37),(426,.code F426),(414,.code F414),(530,.codeR F530 0)]
def nodeT2:List (Nat×Fn):=[(531,.codeR F531 0),(532,.codeR F532 0),(533,.code F460),(534,.code F534),(535,.code F488),(536,.code F536),(45,.code F45),(360,.code F360),(395,.code F395),(552,.code F552),(554,.code F554),(555,.code F555)]
def nodeT3:List (Nat×Fn):=[(556,.code F556),(557,.code F557),(558,.code F558),(560,.code F560),(561,.code F561),(562,.code F562),(563,.code F563),(564,.code F564),(368,.code F368),(39,.code F39),(430,.code F430),(41,.code F41)]
def nodeT4:List (Nat×Fn):=[(431,.code F431),(432,.code F432),(456,.code F456),(484,.code F484),(341,.code F341),(422,.codeR F422 0),(421,.codeR F421 0),(457,.codeR F457 0),(458,.codeR F458 0),(411,.code F411),(60,.code F60),(61,.code F61)]
def nodeT5:List (Nat×Fn):=[(62,.code F62),(38,.code F38),(42,.code F42),(445,.code F445),(24,.code F24),(491,.code F491),(565,.codeR F565 0),(540,.codeR F540 0),(539,.codeR F539 0),(566,.code F566),(487,.code F487),(503,.code F503)]
def nodeT6:List (Nat×Fn):=[(460,.code F460),(459,.code F459),(488,.code F488),(489,.code F489),(70,.code F70),(372,.code F372),(345,.code F345),(397,.code F397),(401,.code F401),(43,.code F43),(570,.code F570),(571,.code F571)]
def nodeT7:List (Nat×Fn):=[(572,.code F572),(573,.code F573),(574,.code F574),(413,.code F413),(577,.code F577),(578,.code F578),(63,.code F63),(64,.code F64),(65,.code F65),(66,.code F66),(67,.code F67),(68,.code F68)]
def nodeT8:List (Nat×Fn):=[(428,.code F428),(40,.code F40),(468,.code F468),(366,.code F366),(367,.code F367),(28,.code F28),(455,.code F455),(485,.code F485),(434,.codeR F434 0),(435,.codeR F435 0),(436,.codeR F436 0),(246,.code F246)]
def nodeT9:List (Nat×Fn):=[(424,.code F424),(505,.code F505),(506,.code F506),(567,.codeR F567 0),(465,.codeR F465 0),(464,.codeR F464 0),(492,.codeR F492 0),(493,.codeR F493 0),(466,.codeR F466 0),(502,.code F502),(486,.code F486),(504,.code F504)]
def nodeT10:List (Nat×Fn):=[(101,.code F101),(153,.code F153),(249,.code F249),(423,.codeR F423 0),(580,.code F580),(581,.code F581),(582,.code F582),(583,.code F583),(427,.code F427),(439,.code F439),(440,.code F440),(15,.code F15)]
def nodeT11:List (Nat×Fn):=[(442,.code F442),(585,.code F585),(507,.code F507),(490,.code F490),(75,.code F75),(76,.code F76),(467,.codeR F467 0),(32,.code F32),(483,.code F483),(469,.code F469),(470,.code F470),(471,.codeR F471 0)]
def nodeT12:List (Nat×Fn):=[(472,.codeR F472 0),(293,.code F293),(245,.code F245),(300,.code F300),(461,.code F461),(244,.code F244),(301,.code F301),(284,.code F284),(586,.code F586),(186,.code F186),(429,.code F429),(473,.code F473)]
def nodeT13:List (Nat×Fn):=[(462,.code F462),(463,.code F463),(474,.code F474),(240,.code F240),(26,.code F26),(27,.code F27),(47,.code F47),(587,.code F587),(494,.code F494),(495,.code F495),(292,.code F292),(167,.code F167)]
def nodeT14:List (Nat×Fn):=[(204,.code F204),(80,.code F80),(142,.code F142),(6,.code F6),(203,.code F203),(81,.code F81),(298,.code F298),(299,.code F299),(316,.code F316),(313,.code F313),(192,.code F192),(71,.code F71)]
def nodeT15:List (Nat×Fn):=[(496,.code F496),(72,.code F72),(499,.code F499),(285,.code F285),(287,.code F287),(171,.code F171),(288,.code F288),(289,.code F289),(290,.code F290),(31,.code F31),(304,.code F304),(168,.code F168)]
def nodeT16:List (Nat×Fn):=[(187,.code F187),(4,.code F4),(95,.code F95),(96,.code F96),(169,.code F169),(7,.code F7),(97,.code F97),(98,.code F98),(315,.code F315),(314,.code F314),(82,.code F82),(84,.code F84)]
def nodeT17:List (Nat×Fn):=[(200,.code F200),(88,.code F88),(312,.code F312),(220,.code F220),(221,.code F221),(188,.code F188),(189,.code F189),(195,.code F195),(5,.code F5),(22,.code F22),(319,.code F319),(320,.code F320)]
def nodeT18:List (Nat×Fn):=[(100,.code F100),(3,.code F3),(225,.code F225),(106,.code F106),(69,.prim (some 0) (cQ 1)),(170,.prim none jk),(497,.prim (some 0) (cQ 9)),(498,.prim (some 1009) noQ),(307,.prim (some 0) (cQ 17)),(190,.prim none kh),(317,.prim (some 1017) noQ),(222,.prim (some 1002) noQ)]
def nodeT19:List (Nat×Fn):=[(102,.prim (some 0) (cQ 11)),(103,.prim (some 1011) noQ),(23,.prim (some 0) (cQ 5)),(227,.prim (some 0) (cQ 2))]
def nodeTab:List (Nat×Fn):=nodeT0++(nodeT1++(nodeT2++(nodeT3++(nodeT4++(nodeT5++(nodeT6++(nodeT7++(nodeT8++(nodeT9++(nodeT10++(nodeT11++(nodeT12++(nodeT13++(nodeT14++(nodeT15++(nodeT16++(nodeT17++(nodeT18++(nodeT19)))))))))))))))))))
set_option maxRecDepth 100000
theorem okap {P:Go.Program} {cx:Cx} {tab:List (Nat×Fn)}:∀{a b:List (Nat×Fn)} (h:cZ P cx tab a=true) (t:cZ P cx tab b=true),cZ P cx tab (a++b)=true
 |[],_,_,t=>t
 |(k,.code F)::l,_,h,t=>by
  simp only[cZ,Bool.and_eq_true] at h;simp only[List.cons_append,cZ,h.1,okap h.2 t,Bool.and_self]
 |(k,.codeR F j)::l,_,h,t=>by
  simp only[cZ,Bool.and_eq_true] at h;simp only[List.cons_append,cZ,h.1.1,h.1.2,okap h.2 t,Bool.and_self]
 |(k,.prim o p)::l,_,h,t=>by
  simp only[cZ,Bool.and_eq_true] at h;simp only[List.cons_append,cZ,h.1,okap h.2 t,Bool.and_self]
noncomputable abbrev okq (l:List (Nat×Fn)):Bool:=cZ Tryz.prog (cxU nodeFm) nodeTab l
def ok0:okq nodeT0=true:=by kernel_rfl
def ok1:okq nodeT1=true:=by kernel_rfl
def ok2:okq nodeT2=true:=by kernel_rfl
def ok3:okq nodeT3=true:=by kernel_rfl
def ok4:okq nodeT4=true:=by kernel_rfl
def ok5:okq nodeT5=true:=by kernel_rfl
def ok6:okq nodeT6=true:=by kernel_rfl
def ok7:okq nodeT7=true:=by kernel_rfl
def ok8:okq nodeT8=true:=by kernel_rfl
def ok9:okq nodeT9=true:=by kernel_rfl
def ok10:okq nodeT10=true:=by kernel_rfl
def ok11:okq nodeT11=true:=by kernel_rfl
def ok12:okq nodeT12=true:=by kernel_rfl
def ok13:okq nodeT13=true:=by kernel_rfl
def ok14:okq nodeT14=true:=by kernel_rfl
def ok15:okq nodeT15=true:=by kernel_rfl
def ok16:okq nodeT16=true:=by kernel_rfl
def ok17:okq nodeT17=true:=by kernel_rfl
def ok18:okq nodeT18=true:=by kernel_rfl
def ok19:okq nodeT19=true:=by kernel_rfl
def okAll:cZ Tryz.prog (cxU nodeFm) nodeTab nodeTab=true:=okap ok0 (okap ok1 (okap ok2 (okap ok3 (okap ok4 (okap ok5 (okap ok6 (okap ok7 (okap ok8 (okap ok9 (okap ok10 (okap ok11 (okap ok12 (okap ok13 (okap ok14 (okap ok15 (okap ok16 (okap ok17 (okap ok18 (ok19)))))))))))))))))))
def okClone69:fQ Tryz.prog (cxU nodeFm) (bF 69 (aZ 1 [.int .i64 0])) 134 (aZ 1 [.int .i64 0])=true:=by kernel_rfl
def okClone497:fQ Tryz.prog (cxU nodeFm) (bF 497 (aZ 9 [.int .i64 0,.int .i64 0,.int .i64 0,.slice 1 [],.int .i64 0,.str [],.str [],.slice 1 [],.slice 36 []])) 351 (aZ 9 [.int .i64 0,.int .i64 0,.int .i64 0,.slice 1 [],.int .i64 0,.str [],.str [],.slice 1 [],.slice 36 []])=true:=by kernel_rfl
def okClone307:fQ Tryz.prog (cxU nodeFm) (bF 307 (aZ 17 [.int .i64 0,.int .i64 0,.str [],.str [],.int .i64 0,.slice 2 [],.int .i64 0,.int .i64 0,.int .i64 0,.int .i64 0,.int .i64 0,.int .i64 0,.slice 11 [],.int .i64 0,.int .i64 0,.int .i64 0,.int .i64 0])) 365 (aZ 17 [.int .i64 0,.int .i64 0,.str [],.str [],.int .i64 0,.slice 2 [],.int .i64 0,.int .i64 0,.int .i64 0,.int .i64 0,.int .i64 0,.int .i64 0,.slice 11 [],.int .i64 0,.int .i64 0,.int .i64 0,.int .i64 0])=true:=by kernel_rfl
def okClone102:fQ Tryz.prog (cxU nodeFm) (bF 102 (aZ 11 [.int .i64 0,.int .i64 0,.int .i64 0,.int .i64 0,.int .i64 0,.int .i64 0,.bool false,.str [],.slice 2 [],.str [],.bool false])) 396 (aZ 11 [.int .i64 0,.int .i64 0,.int .i64 0,.int .i64 0,.int .i64 0,.int .i64 0,.bool false,.str [],.slice 2 [],.str [],.bool false])=true:=by kernel_rfl
def okClone23:fQ Tryz.prog (cxU nodeFm) (bF 23 (aZ 5 [.int .i64 0,.int .i64 0,.int .i64 0,.bool false,.str []])) 401 (aZ 5 [.int .i64 0,.int .i64 0,.int .i64 0,.bool false,.str []])=true:=by kernel_rfl
def okClone227:fQ Tryz.prog (cxU nodeFm) (bF 227 (aZ 2 [.str [],.slice 5 []])) 406 (aZ 2 [.str [],.slice 5 []])=true:=by kernel_rfl
end Sg
namespace Sg
open Go Go.RowKit Go.Lib Go.Proofs
def insB:=And.intro Tryz.underlying0 (And.intro Tryz.underlying3 (And.intro Tryz.underlying4 (And.intro Tryz.isAgg0 (And.intro Tryz.isAgg3 (And.intro Tryz.isAgg4 (And.intro Tryz.sizeOf0 (And.intro Tryz.sizeOf3 (And.intro Tryz.sizeOf4 (And.intro Tryz.zeroValue0 (And.intro Tryz.zeroValue3 (And.intro Tryz.zeroValue4 (And.intro (run_underlying Tryz.underlying0) (And.intro (run_underlying Tryz.underlying3) ((run_underlying Tryz.underlying4)))))))))))))))
def insB352:=And.intro Tryz.underlying44 (And.intro Tryz.underlying22 (And.intro Tryz.isAgg44 (And.intro Tryz.isAgg22 (And.intro Tryz.sizeOf44 (And.intro Tryz.sizeOf22 (And.intro Tryz.zeroValue22 ((run_underlying Tryz.underlying22))))))))
theorem insC352:gK Tryz.prog 352 9 22 44 where
 ent:=⟨Tryz.f352,Tryz.func352,by kernel_rfl,by kernel_rfl⟩
 hS:=Tryz.underlying22
 hz:=by kernel_rfl
 pos:=by decide
 info:=⟨_,(Value.agg #[.int .i64 0,.int .i64 0,.int .i64 0,.slice none 0 0,.int .i64 0,.string ⟨#[]⟩,.string ⟨#[]⟩,.slice none 0 0,.slice none 0 0]),rfl,by decide,rfl,rfl⟩
 nothing:=by
  intro base n c i vc vb w hnc hi hnil;obtain⟨t0,t3,t4,a0,a3,a4,z0,z3,z4,v0,v3,v4,u0,u3,u4⟩:=insB;obtain⟨t9,t24,a9,a24,z9,z24,v24,u24⟩:=insB352;have mixed:Tryz.prog.follows .mixedOrders=true:=by kernel_rfl
  go_enter Tryz.func352,Tryz.ntmps352
  cases base with
  |none=>
   have h0:=hnil rfl;subst h0;have hi0:i=0:=by omega
   subst hi0
   go_wp2
   all_goals (go_ret;exact⟨rfl,rfl⟩)
  |some a=>
   obtain⟨ab,ao,asp⟩:=a
   go_wp2
   all_goals (go_ret;exact⟨rfl,rfl⟩)
 end_:=by
  intro base n c m vc vb w w' q hm hnc hlim hnil hrun;obtain⟨t0,t3,t4,a0,a3,a4,z0,z3,z4,v0,v3,v4,u0,u3,u4⟩:=insB;obtain⟨t9,t24,a9,a24,z9,z24,v24,u24⟩:=insB352;have mixed:Tryz.prog.follows .mixedOrders=true:=by kernel_rfl
  have hz1:¬((m:Int)=0):=by omega
  go_enter Tryz.func352,Tryz.ntmps352
  cases base with
  |none=>
   have h0:=hnil rfl;subst h0
   go_wp2_with (at_builtin;refine Lib.wpList_append_run _ rfl _ _ _ _ rfl _ _ rfl rfl _ _ hrun ?_)
   all_goals (go_ret;exact⟨rfl,rfl⟩)
  |some a=>
   obtain⟨ab,ao,asp⟩:=a
   go_wp2_with (at_builtin;refine Lib.wpList_append_run _ rfl _ _ _ _ rfl _ _ rfl rfl _ _ hrun ?_)
   all_goals (go_ret;exact⟨rfl,rfl⟩)
 shift:=by
  intro b off n c i vb voff m vc cs vs w hi hm hroom hlim hvb hcl hvl hcs hsp hfz hvs h1c h1v tA tB kA kB hsa hsb hkA;obtain⟨t0,t3,t4,a0,a3,a4,z0,z3,z4,v0,v3,v4,u0,u3,u4⟩:=insB;obtain⟨t9,t24,a9,a24,z9,z24,v24,u24⟩:=insB352;have hz1:¬((m:Int)=0):=by omega
  have hz2:¬((i:Int)=(n:Int)):=by omega
  have hsz:(Tryz.prog.info? 44).map (·.size)=some 9:=by kernel_rfl
  have hov:∀lb cb,(callFunc 376 #[.slice (some ⟨vb,voff,none⟩) m vc,.slice (some ⟨b,off+(i+m)*9,none⟩) lb cb]).run Tryz.prog w=.ok (.value (.bool false)) w:=fun lb cb=>by
   rw[run_callFunc_extern Tryz.func376 (by kernel_rfl) (by kernel_rfl) (by kernel_rfl) (e:=Extern.SlicesOverlaps.overlaps #[22,22] #[4]) (by kernel_rfl),
    cU w 22 4 44 t24 9 z9 ⟨vb,voff,none⟩ ⟨b,off+(i+m)*9,none⟩ m vc lb cb hvb tA tB kA kB hsa hsb hkA (hfz _) (hfz _)]
   rfl
  have mixed:Tryz.prog.follows .mixedOrders=true:=by kernel_rfl
  have hw1:IntKind.i64.wrap ((i:Int)+(m:Int))=(i:Int)+(m:Int):=by rw[IntKind.wrap_i64];omega
  have hb1:(0:Int)<=(i:Int)+(m:Int):=by omega
  have hin:i<=n:=by omega
  have htn:((i:Int)+(m:Int)).toNat=i+m:=by omega
  have hb2:¬(c=i+m):=by omega
  have hb3:(i:Int)<=(n:Int)+(m:Int):=by omega
  have hb4:¬(c=i):=by omega
  obtain⟨W1,hW1,hcp1,hcp2⟩:=f6 t24 hsz b off n c i vb voff m vc cs vs w hi hm hvb hcl hvl hcs hsp hfz hvs h1c h1v
  go_enter Tryz.func352,Tryz.ntmps352
  go_wp2_with (simp only[hov])
  go_region_law_o (refine bJ rfl _ _ 22 22 rfl _ _ (by simp[Act.eval,Act.put]) (by simp[Act.eval,Act.put]) (hcp1 _ _ _) ?_)
  go_wp2_with (at_builtin;refine aP _ rfl _ _ 22 22 rfl _ _ rfl rfl (hcp2 _ (fun _=>rfl) (fun _=>rfl) _ _) ?_)
  go_ret
  first|exact⟨rfl,rfl⟩|exact⟨rfl,by rw[hW1]⟩
 grow:=by
  intro b off n c i vb voff m vc cs vs w hi hm hnc hroom hlim hcl hvl hbw hvw hcs hvs h1c h1v;obtain⟨t0,t3,t4,a0,a3,a4,z0,z3,z4,v0,v3,v4,u0,u3,u4⟩:=insB;obtain⟨t9,t24,a9,a24,z9,z24,v24,u24⟩:=insB352;have mixed:Tryz.prog.follows .mixedOrders=true:=by kernel_rfl
  obtain⟨i0,hi0,hz0,hzs,hzb⟩:∃i0,Tryz.prog.info? 44=some i0/\i0.zero=some (Value.agg #[.int .i64 0,.int .i64 0,.int .i64 0,.slice none 0 0,.int .i64 0,.string ⟨#[]⟩,.string ⟨#[]⟩,.slice none 0 0,.slice none 0 0])/\i0.size=9/\i0.bytes=136:=⟨_,rfl,rfl,rfl,rfl⟩;have hz1:¬((m:Int)=0):=by omega
  have hz2:¬((i:Int)=(n:Int)):=by omega
  have hz3:(c:Int)<(n:Int)+(m:Int):=by omega
  obtain⟨G,ROW,hGn,hRl,hRs,hRt,hG63,hrz,hcpA,hcpB⟩:=ga t24 t3 i0 (Value.agg #[.int .i64 0,.int .i64 0,.int .i64 0,.slice none 0 0,.int .i64 0,.string ⟨#[]⟩,.string ⟨#[]⟩,.slice none 0 0,.slice none 0 0]) hi0 hz0 hzs (by decide) (by rw[hzb];decide) (fun k=>by simp[Builtin.zeroCells,Value.cells]) b off n c i vb voff m vc cs vs w hi hm hnc hroom hlim hcl hvl hbw hvw hcs hvs h1c h1v;have hGi:¬(G=i):=by omega
  have hGim:¬(G=i+m):=by omega
  have hci:¬(c=i):=by omega
  have hE1:∀x,((w.alloc (.cells ROW 44)).drew).cell? x=(w.drew.alloc (.cells ROW 44)).cell? x:=fun x=>rfl;have hE2:∀x,((w.alloc (.cells ROW 44)).drew).frozen? x=(w.drew.alloc (.cells ROW 44)).frozen? x:=fun x=>rfl;have hF1:∀x,(((w.alloc (.cells ROW 44)).drew.setCells w.heap.size (i*9) vs).drew).cell? x=((w.drew.alloc (.cells ROW 44)).setCells w.heap.size (i*9) vs).cell? x:=fun x=>rfl;have hF2:∀x,(((w.alloc (.cells ROW 44)).drew.setCells w.heap.size (i*9) vs).drew).frozen? x=((w.drew.alloc (.cells ROW 44)).setCells w.heap.size (i*9) vs).frozen? x:=fun x=>rfl;have hw1:IntKind.i64.wrap ((i:Int)+(m:Int))=(i:Int)+(m:Int):=by rw[IntKind.wrap_i64];omega
  have hb1:(0:Int)<=(i:Int)+(m:Int):=by omega
  have hin:i<=n:=by omega
  have htn:((i:Int)+(m:Int)).toNat=i+m:=by omega
  have hb3:(i:Int)<=(n:Int):=by omega
  go_enter Tryz.func352,Tryz.ntmps352
  go_wp2_with (first
   |(at_builtin;refine Lib.wpList_append_run _ rfl _ _ _ _ rfl _ _ rfl rfl _ _ (hrz _) ?_)
   |(at_builtin;refine aP _ rfl _ _ 22 22 rfl _ _ rfl rfl (hcpA _ hE1 hE2 _ _) ?_)
   |(at_builtin;refine aP _ rfl _ _ 22 22 rfl _ _ rfl rfl (hcpB _ (fun _=>rfl) (fun _=>rfl) _ _ _) ?_))
  go_region_law_o (refine bJ rfl _ _ 22 22 rfl (.slice (some ⟨w.heap.size,(i+m)*9,none⟩) (n+m-(i+m)) (G-(i+m))) (.slice (some ⟨b,off+i*9,none⟩) (n-i) (c-i)) (by simp[Act.eval,Act.put]) (by simp[Act.eval,Act.put]) (hcpB _ hF1 hF2 3 (G-(i+m)) (c-i)) ?_)
  go_wp2
  go_ret
  exact⟨G,ROW,w.drew.drew.drawn,hGn,hRl,hRs,hRt,rfl,by first|rfl|(rw[bR];rfl)|(simp only[bR];rfl)⟩
def insB386:=And.intro Tryz.underlying194 (And.intro Tryz.underlying87 (And.intro Tryz.isAgg194 (And.intro Tryz.isAgg87 (And.intro Tryz.sizeOf194 (And.intro Tryz.sizeOf87 (And.intro Tryz.zeroValue87 ((run_underlying Tryz.underlying87))))))))
theorem insC386:gK Tryz.prog 386 17 87 194 where
 ent:=⟨Tryz.f386,Tryz.func386,by kernel_rfl,by kernel_rfl⟩
 hS:=Tryz.underlying87
 hz:=by kernel_rfl
 pos:=by decide
 info:=⟨_,(Value.agg #[.int .i64 0,.int .i64 0,.string ⟨#[]⟩,.string ⟨#[]⟩,.int .i64 0,.slice none 0 0,.int .i64 0,.int .i64 0,.int .i64 0,.int .i64 0,.int .i64 0,.int .i64 0,.slice none 0 0,.int .i64 0,.int .i64 0,.int .i64 0,.int .i64 0]),rfl,by decide,rfl,rfl⟩
 nothing:=by
  intro base n c i vc vb w hnc hi hnil;obtain⟨t0,t3,t4,a0,a3,a4,z0,z3,z4,v0,v3,v4,u0,u3,u4⟩:=insB;obtain⟨t9,t24,a9,a24,z9,z24,v24,u24⟩:=insB386;have mixed:Tryz.prog.follows .mixedOrders=true:=by kernel_rfl
  go_enter Tryz.func386,Tryz.ntmps386
  cases base with
  |none=>
   have h0:=hnil rfl;subst h0;have hi0:i=0:=by omega
   subst hi0
   go_wp2
   all_goals (go_ret;exact⟨rfl,rfl⟩)
  |some a=>
   obtain⟨ab,ao,asp⟩:=a
   go_wp2
   all_goals (go_ret;exact⟨rfl,rfl⟩)
 end_:=by
  intro base n c m vc vb w w' q hm hnc hlim hnil hrun;obtain⟨t0,t3,t4,a0,a3,a4,z0,z3,z4,v0,v3,v4,u0,u3,u4⟩:=insB;obtain⟨t9,t24,a9,a24,z9,z24,v24,u24⟩:=insB386;have mixed:Tryz.prog.follows .mixedOrders=true:=by kernel_rfl
  have hz1:¬((m:Int)=0):=by omega
  go_enter Tryz.func386,Tryz.ntmps386
  cases base with
  |none=>
   have h0:=hnil rfl;subst h0
   go_wp2_with (at_builtin;refine Lib.wpList_append_run _ rfl _ _ _ _ rfl _ _ rfl rfl _ _ hrun ?_)
   all_goals (go_ret;exact⟨rfl,rfl⟩)
  |some a=>
   obtain⟨ab,ao,asp⟩:=a
   go_wp2_with (at_builtin;refine Lib.wpList_append_run _ rfl _ _ _ _ rfl _ _ rfl rfl _ _ hrun ?_)
   all_goals (go_ret;exact⟨rfl,rfl⟩)
 shift:=by
  intro b off n c i vb voff m vc cs vs w hi hm hroom hlim hvb hcl hvl hcs hsp hfz hvs h1c h1v tA tB kA kB hsa hsb hkA;obtain⟨t0,t3,t4,a0,a3,a4,z0,z3,z4,v0,v3,v4,u0,u3,u4⟩:=insB;obtain⟨t9,t24,a9,a24,z9,z24,v24,u24⟩:=insB386;have hz1:¬((m:Int)=0):=by omega
  have hz2:¬((i:Int)=(n:Int)):=by omega
  have hsz:(Tryz.prog.info? 194).map (·.size)=some 17:=by kernel_rfl
  have hov:∀lb cb,(callFunc 402 #[.slice (some ⟨vb,voff,none⟩) m vc,.slice (some ⟨b,off+(i+m)*17,none⟩) lb cb]).run Tryz.prog w=.ok (.value (.bool false)) w:=fun lb cb=>by
   rw[run_callFunc_extern Tryz.func402 (by kernel_rfl) (by kernel_rfl) (by kernel_rfl) (e:=Extern.SlicesOverlaps.overlaps #[87,87] #[4]) (by kernel_rfl),
    cU w 87 4 194 t24 17 z9 ⟨vb,voff,none⟩ ⟨b,off+(i+m)*17,none⟩ m vc lb cb hvb tA tB kA kB hsa hsb hkA (hfz _) (hfz _)]
   rfl
  have mixed:Tryz.prog.follows .mixedOrders=true:=by kernel_rfl
  have hw1:IntKind.i64.wrap ((i:Int)+(m:Int))=(i:Int)+(m:Int):=by rw[IntKind.wrap_i64];omega
  have hb1:(0:Int)<=(i:Int)+(m:Int):=by omega
  have hin:i<=n:=by omega
  have htn:((i:Int)+(m:Int)).toNat=i+m:=by omega
  have hb2:¬(c=i+m):=by omega
  have hb3:(i:Int)<=(n:Int)+(m:Int):=by omega
  have hb4:¬(c=i):=by omega
  obtain⟨W1,hW1,hcp1,hcp2⟩:=f6 t24 hsz b off n c i vb voff m vc cs vs w hi hm hvb hcl hvl hcs hsp hfz hvs h1c h1v
  go_enter Tryz.func386,Tryz.ntmps386
  go_wp2_with (simp only[hov])
  go_region_law_o (refine bJ rfl _ _ 87 87 rfl _ _ (by simp[Act.eval,Act.put]) (by simp[Act.eval,Act.put]) (hcp1 _ _ _) ?_)
  go_wp2_with (at_builtin;refine aP _ rfl _ _ 87 87 rfl _ _ rfl rfl (hcp2 _ (fun _=>rfl) (fun _=>rfl) _ _) ?_)
  go_ret
  first|exact⟨rfl,rfl⟩|exact⟨rfl,by rw[hW1]⟩
 grow:=by
  intro b off n c i vb voff m vc cs vs w hi hm hnc hroom hlim hcl hvl hbw hvw hcs hvs h1c h1v;obtain⟨t0,t3,t4,a0,a3,a4,z0,z3,z4,v0,v3,v4,u0,u3,u4⟩:=insB;obtain⟨t9,t24,a9,a24,z9,z24,v24,u24⟩:=insB386;have mixed:Tryz.prog.follows .mixedOrders=true:=by kernel_rfl
  obtain⟨i0,hi0,hz0,hzs,hzb⟩:∃i0,Tryz.prog.info? 194=some i0/\i0.zero=some (Value.agg #[.int .i64 0,.int .i64 0,.string ⟨#[]⟩,.string ⟨#[]⟩,.int .i64 0,.slice none 0 0,.int .i64 0,.int .i64 0,.int .i64 0,.int .i64 0,.int .i64 0,.int .i64 0,.slice none 0 0,.int .i64 0,.int .i64 0,.int .i64 0,.int .i64 0])/\i0.size=17/\i0.bytes=184:=⟨_,rfl,rfl,rfl,rfl⟩;have hz1:¬((m:Int)=0):=by omega
  have hz2:¬((i:Int)=(n:Int)):=by omega
  have hz3:(c:Int)<(n:Int)+(m:Int):=by omega
  obtain⟨G,ROW,hGn,hRl,hRs,hRt,hG63,hrz,hcpA,hcpB⟩:=ga t24 t3 i0 (Value.agg #[.int .i64 0,.int .i64 0,.string ⟨#[]⟩,.string ⟨#[]⟩,.int .i64 0,.slice none 0 0,.int .i64 0,.int .i64 0,.int .i64 0,.int .i64 0,.int .i64 0,.int .i64 0,.slice none 0 0,.int .i64 0,.int .i64 0,.int .i64 0,.int .i64 0]) hi0 hz0 hzs (by decide) (by rw[hzb];decide) (fun k=>by simp[Builtin.zeroCells,Value.cells]) b off n c i vb voff m vc cs vs w hi hm hnc hroom hlim hcl hvl hbw hvw hcs hvs h1c h1v;have hGi:¬(G=i):=by omega
  have hGim:¬(G=i+m):=by omega
  have hci:¬(c=i):=by omega
  have hE1:∀x,((w.alloc (.cells ROW 194)).drew).cell? x=(w.drew.alloc (.cells ROW 194)).cell? x:=fun x=>rfl;have hE2:∀x,((w.alloc (.cells ROW 194)).drew).frozen? x=(w.drew.alloc (.cells ROW 194)).frozen? x:=fun x=>rfl;have hF1:∀x,(((w.alloc (.cells ROW 194)).drew.setCells w.heap.size (i*17) vs).drew).cell? x=((w.drew.alloc (.cells ROW 194)).setCells w.heap.size (i*17) vs).cell? x:=fun x=>rfl;have hF2:∀x,(((w.alloc (.cells ROW 194)).drew.setCells w.heap.size (i*17) vs).drew).frozen? x=((w.drew.alloc (.cells ROW 194)).setCells w.heap.size (i*17) vs).frozen? x:=fun x=>rfl;have hw1:IntKind.i64.wrap ((i:Int)+(m:Int))=(i:Int)+(m:Int):=by rw[IntKind.wrap_i64];omega
  have hb1:(0:Int)<=(i:Int)+(m:Int):=by omega
  have hin:i<=n:=by omega
  have htn:((i:Int)+(m:Int)).toNat=i+m:=by omega
  have hb3:(i:Int)<=(n:Int):=by omega
  go_enter Tryz.func386,Tryz.ntmps386
  go_wp2_with (first
   |(at_builtin;refine Lib.wpList_append_run _ rfl _ _ _ _ rfl _ _ rfl rfl _ _ (hrz _) ?_)
   |(at_builtin;refine aP _ rfl _ _ 87 87 rfl _ _ rfl rfl (hcpA _ hE1 hE2 _ _) ?_)
   |(at_builtin;refine aP _ rfl _ _ 87 87 rfl _ _ rfl rfl (hcpB _ (fun _=>rfl) (fun _=>rfl) _ _ _) ?_))
  go_region_law_o (refine bJ rfl _ _ 87 87 rfl (.slice (some ⟨w.heap.size,(i+m)*17,none⟩) (n+m-(i+m)) (G-(i+m))) (.slice (some ⟨b,off+i*17,none⟩) (n-i) (c-i)) (by simp[Act.eval,Act.put]) (by simp[Act.eval,Act.put]) (hcpB _ hF1 hF2 3 (G-(i+m)) (c-i)) ?_)
  go_wp2
  go_ret
  exact⟨G,ROW,w.drew.drew.drawn,hGn,hRl,hRs,hRt,rfl,by first|rfl|(rw[bR];rfl)|(simp only[bR];rfl)⟩
def insB395:=And.intro Tryz.underlying232 (And.intro Tryz.underlying191 (And.intro Tryz.isAgg232 (And.intro Tryz.isAgg191 (And.intro Tryz.sizeOf232 (And.intro Tryz.sizeOf191 (And.intro Tryz.zeroValue191 ((run_underlying Tryz.underlying191))))))))
theorem insC395:gK Tryz.prog 395 2 191 232 where
 ent:=⟨Tryz.f395,Tryz.func395,by kernel_rfl,by kernel_rfl⟩
 hS:=Tryz.underlying191
 hz:=by kernel_rfl
 pos:=by decide
 info:=⟨_,(Value.agg #[.string ⟨#[]⟩,.slice none 0 0]),rfl,by decide,rfl,rfl⟩
 nothing:=by
  intro base n c i vc vb w hnc hi hnil;obtain⟨t0,t3,t4,a0,a3,a4,z0,z3,z4,v0,v3,v4,u0,u3,u4⟩:=insB;obtain⟨t9,t24,a9,a24,z9,z24,v24,u24⟩:=insB395;have mixed:Tryz.prog.follows .mixedOrders=true:=by kernel_rfl
  go_enter Tryz.func395,Tryz.ntmps395
  cases base with
  |none=>
   have h0:=hnil rfl;subst h0;have hi0:i=0:=by omega
   subst hi0
   go_wp2
   all_goals (go_ret;exact⟨rfl,rfl⟩)
  |some a=>
   obtain⟨ab,ao,asp⟩:=a
   go_wp2
   all_goals (go_ret;exact⟨rfl,rfl⟩)
 end_:=by
  intro base n c m vc vb w w' q hm hnc hlim hnil hrun;obtain⟨t0,t3,t4,a0,a3,a4,z0,z3,z4,v0,v3,v4,u0,u3,u4⟩:=insB;obtain⟨t9,t24,a9,a24,z9,z24,v24,u24⟩:=insB395;have mixed:Tryz.prog.follows .mixedOrders=true:=by kernel_rfl
  have hz1:¬((m:Int)=0):=by omega
  go_enter Tryz.func395,Tryz.ntmps395
  cases base with
  |none=>
   have h0:=hnil rfl;subst h0
   go_wp2_with (at_builtin;refine Lib.wpList_append_run _ rfl _ _ _ _ rfl _ _ rfl rfl _ _ hrun ?_)
   all_goals (go_ret;exact⟨rfl,rfl⟩)
  |some a=>
   obtain⟨ab,ao,asp⟩:=a
   go_wp2_with (at_builtin;refine Lib.wpList_append_run _ rfl _ _ _ _ rfl _ _ rfl rfl _ _ hrun ?_)
   all_goals (go_ret;exact⟨rfl,rfl⟩)
 shift:=by
  intro b off n c i vb voff m vc cs vs w hi hm hroom hlim hvb hcl hvl hcs hsp hfz hvs h1c h1v tA tB kA kB hsa hsb hkA;obtain⟨t0,t3,t4,a0,a3,a4,z0,z3,z4,v0,v3,v4,u0,u3,u4⟩:=insB;obtain⟨t9,t24,a9,a24,z9,z24,v24,u24⟩:=insB395;have hz1:¬((m:Int)=0):=by omega
  have hz2:¬((i:Int)=(n:Int)):=by omega
  have hsz:(Tryz.prog.info? 232).map (·.size)=some 2:=by kernel_rfl
  have hov:∀lb cb,(callFunc 410 #[.slice (some ⟨vb,voff,none⟩) m vc,.slice (some ⟨b,off+(i+m)*2,none⟩) lb cb]).run Tryz.prog w=.ok (.value (.bool false)) w:=fun lb cb=>by
   rw[run_callFunc_extern Tryz.func410 (by kernel_rfl) (by kernel_rfl) (by kernel_rfl) (e:=Extern.SlicesOverlaps.overlaps #[191,191] #[4]) (by kernel_rfl),
    cU w 191 4 232 t24 2 z9 ⟨vb,voff,none⟩ ⟨b,off+(i+m)*2,none⟩ m vc lb cb hvb tA tB kA kB hsa hsb hkA (hfz _) (hfz _)]
   rfl
  have mixed:Tryz.prog.follows .mixedOrders=true:=by kernel_rfl
  have hw1:IntKind.i64.wrap ((i:Int)+(m:Int))=(i:Int)+(m:Int):=by rw[IntKind.wrap_i64];omega
  have hb1:(0:Int)<=(i:Int)+(m:Int):=by omega
  have hin:i<=n:=by omega
  have htn:((i:Int)+(m:Int)).toNat=i+m:=by omega
  have hb2:¬(c=i+m):=by omega
  have hb3:(i:Int)<=(n:Int)+(m:Int):=by omega
  have hb4:¬(c=i):=by omega
  obtain⟨W1,hW1,hcp1,hcp2⟩:=f6 t24 hsz b off n c i vb voff m vc cs vs w hi hm hvb hcl hvl hcs hsp hfz hvs h1c h1v
  go_enter Tryz.func395,Tryz.ntmps395
  go_wp2_with (simp only[hov])
  go_region_law_o (refine bJ rfl _ _ 191 191 rfl _ _ (by simp[Act.eval,Act.put]) (by simp[Act.eval,Act.put]) (hcp1 _ _ _) ?_)
  go_wp2_with (at_builtin;refine aP _ rfl _ _ 191 191 rfl _ _ rfl rfl (hcp2 _ (fun _=>rfl) (fun _=>rfl) _ _) ?_)
  go_ret
  first|exact⟨rfl,rfl⟩|exact⟨rfl,by rw[hW1]⟩
 grow:=by
  intro b off n c i vb voff m vc cs vs w hi hm hnc hroom hlim hcl hvl hbw hvw hcs hvs h1c h1v;obtain⟨t0,t3,t4,a0,a3,a4,z0,z3,z4,v0,v3,v4,u0,u3,u4⟩:=insB;obtain⟨t9,t24,a9,a24,z9,z24,v24,u24⟩:=insB395;have mixed:Tryz.prog.follows .mixedOrders=true:=by kernel_rfl
  obtain⟨i0,hi0,hz0,hzs,hzb⟩:∃i0,Tryz.prog.info? 232=some i0/\i0.zero=some (Value.agg #[.string ⟨#[]⟩,.slice none 0 0])/\i0.size=2/\i0.bytes=40:=⟨_,rfl,rfl,rfl,rfl⟩;have hz1:¬((m:Int)=0):=by omega
  have hz2:¬((i:Int)=(n:Int)):=by omega
  have hz3:(c:Int)<(n:Int)+(m:Int):=by omega
  obtain⟨G,ROW,hGn,hRl,hRs,hRt,hG63,hrz,hcpA,hcpB⟩:=ga t24 t3 i0 (Value.agg #[.string ⟨#[]⟩,.slice none 0 0]) hi0 hz0 hzs (by decide) (by rw[hzb];decide) (fun k=>by simp[Builtin.zeroCells,Value.cells]) b off n c i vb voff m vc cs vs w hi hm hnc hroom hlim hcl hvl hbw hvw hcs hvs h1c h1v;have hGi:¬(G=i):=by omega
  have hGim:¬(G=i+m):=by omega
  have hci:¬(c=i):=by omega
  have hE1:∀x,((w.alloc (.cells ROW 232)).drew).cell? x=(w.drew.alloc (.cells ROW 232)).cell? x:=fun x=>rfl;have hE2:∀x,((w.alloc (.cells ROW 232)).drew).frozen? x=(w.drew.alloc (.cells ROW 232)).frozen? x:=fun x=>rfl;have hF1:∀x,(((w.alloc (.cells ROW 232)).drew.setCells w.heap.size (i*2) vs).drew).cell? x=((w.drew.alloc (.cells ROW 232)).setCells w.heap.size (i*2) vs).cell? x:=fun x=>rfl;have hF2:∀x,(((w.alloc (.cells ROW 232)).drew.setCells w.heap.size (i*2) vs).drew).frozen? x=((w.drew.alloc (.cells ROW 232)).setCells w.heap.size (i*2) vs).frozen? x:=fun x=>rfl;have hw1:IntKind.i64.wrap ((i:Int)+(m:Int))=(i:Int)+(m:Int):=by rw[IntKind.wrap_i64];omega
  have hb1:(0:Int)<=(i:Int)+(m:Int):=by omega
  have hin:i<=n:=by omega
  have htn:((i:Int)+(m:Int)).toNat=i+m:=by omega
  have hb3:(i:Int)<=(n:Int):=by omega
  go_enter Tryz.func395,Tryz.ntmps395
  go_wp2_with (first
   |(at_builtin;refine Lib.wpList_append_run _ rfl _ _ _ _ rfl _ _ rfl rfl _ _ (hrz _) ?_)
   |(at_builtin;refine aP _ rfl _ _ 191 191 rfl _ _ rfl rfl (hcpA _ hE1 hE2 _ _) ?_)
   |(at_builtin;refine aP _ rfl _ _ 191 191 rfl _ _ rfl rfl (hcpB _ (fun _=>rfl) (fun _=>rfl) _ _ _) ?_))
  go_region_law_o (refine bJ rfl _ _ 191 191 rfl (.slice (some ⟨w.heap.size,(i+m)*2,none⟩) (n+m-(i+m)) (G-(i+m))) (.slice (some ⟨b,off+i*2,none⟩) (n-i) (c-i)) (by simp[Act.eval,Act.put]) (by simp[Act.eval,Act.put]) (hcpB _ hF1 hF2 3 (G-(i+m)) (c-i)) ?_)
  go_wp2
  go_ret
  exact⟨G,ROW,w.drew.drew.drawn,hGn,hRl,hRs,hRt,rfl,by first|rfl|(rw[bR];rfl)|(simp only[bR];rfl)⟩
def insB397:=And.intro Tryz.underlying236 (And.intro Tryz.underlying192 (And.intro Tryz.isAgg236 (And.intro Tryz.isAgg192 (And.intro Tryz.sizeOf236 (And.intro Tryz.sizeOf192 (And.intro Tryz.zeroValue192 ((run_underlying Tryz.underlying192))))))))
theorem insC397:gK Tryz.prog 397 11 192 236 where
 ent:=⟨Tryz.f397,Tryz.func397,by kernel_rfl,by kernel_rfl⟩
 hS:=Tryz.underlying192
 hz:=by kernel_rfl
 pos:=by decide
 info:=⟨_,(Value.agg #[.int .i64 0,.int .i64 0,.int .i64 0,.int .i64 0,.int .i64 0,.int .i64 0,.bool false,.string ⟨#[]⟩,.slice none 0 0,.string ⟨#[]⟩,.bool false]),rfl,by decide,rfl,rfl⟩
 nothing:=by
  intro base n c i vc vb w hnc hi hnil;obtain⟨t0,t3,t4,a0,a3,a4,z0,z3,z4,v0,v3,v4,u0,u3,u4⟩:=insB;obtain⟨t9,t24,a9,a24,z9,z24,v24,u24⟩:=insB397;have mixed:Tryz.prog.follows .mixedOrders=true:=by kernel_rfl
  go_enter Tryz.func397,Tryz.ntmps397
  cases base with
  |none=>
   have h0:=hnil rfl;subst h0;have hi0:i=0:=by omega
   subst hi0
   go_wp2
   all_goals (go_ret;exact⟨rfl,rfl⟩)
  |some a=>
   obtain⟨ab,ao,asp⟩:=a
   go_wp2
   all_goals (go_ret;exact⟨rfl,rfl⟩)
 end_:=by
  intro base n c m vc vb w w' q hm hnc hlim hnil hrun;obtain⟨t0,t3,t4,a0,a3,a4,z0,z3,z4,v0,v3,v4,u0,u3,u4⟩:=insB;obtain⟨t9,t24,a9,a24,z9,z24,v24,u24⟩:=insB397;have mixed:Tryz.prog.follows .mixedOrders=true:=by kernel_rfl
  have hz1:¬((m:Int)=0):=by omega
  go_enter Tryz.func397,Tryz.ntmps397
  cases base with
  |none=>
   have h0:=hnil rfl;subst h0
   go_wp2_with (at_builtin;refine Lib.wpList_append_run _ rfl _ _ _ _ rfl _ _ rfl rfl _ _ hrun ?_)
   all_goals (go_ret;exact⟨rfl,rfl⟩)
  |some a=>
   obtain⟨ab,ao,asp⟩:=a
   go_wp2_with (at_builtin;refine Lib.wpList_append_run _ rfl _ _ _ _ rfl _ _ rfl rfl _ _ hrun ?_)
   all_goals (go_ret;exact⟨rfl,rfl⟩)
 shift:=by
  intro b off n c i vb voff m vc cs vs w hi hm hroom hlim hvb hcl hvl hcs hsp hfz hvs h1c h1v tA tB kA kB hsa hsb hkA;obtain⟨t0,t3,t4,a0,a3,a4,z0,z3,z4,v0,v3,v4,u0,u3,u4⟩:=insB;obtain⟨t9,t24,a9,a24,z9,z24,v24,u24⟩:=insB397;have hz1:¬((m:Int)=0):=by omega
  have hz2:¬((i:Int)=(n:Int)):=by omega
  have hsz:(Tryz.prog.info? 236).map (·.size)=some 11:=by kernel_rfl
  have hov:∀lb cb,(callFunc 412 #[.slice (some ⟨vb,voff,none⟩) m vc,.slice (some ⟨b,off+(i+m)*11,none⟩) lb cb]).run Tryz.prog w=.ok (.value (.bool false)) w:=fun lb cb=>by
   rw[run_callFunc_extern Tryz.func412 (by kernel_rfl) (by kernel_rfl) (by kernel_rfl) (e:=Extern.SlicesOverlaps.overlaps #[192,192] #[4]) (by kernel_rfl),
    cU w 192 4 236 t24 11 z9 ⟨vb,voff,none⟩ ⟨b,off+(i+m)*11,none⟩ m vc lb cb hvb tA tB kA kB hsa hsb hkA (hfz _) (hfz _)]
   rfl
  have mixed:Tryz.prog.follows .mixedOrders=true:=by kernel_rfl
  have hw1:IntKind.i64.wrap ((i:Int)+(m:Int))=(i:Int)+(m:Int):=by rw[IntKind.wrap_i64];omega
  have hb1:(0:Int)<=(i:Int)+(m:Int):=by omega
  have hin:i<=n:=by omega
  have htn:((i:Int)+(m:Int)).toNat=i+m:=by omega
  have hb2:¬(c=i+m):=by omega
  have hb3:(i:Int)<=(n:Int)+(m:Int):=by omega
  have hb4:¬(c=i):=by omega
  obtain⟨W1,hW1,hcp1,hcp2⟩:=f6 t24 hsz b off n c i vb voff m vc cs vs w hi hm hvb hcl hvl hcs hsp hfz hvs h1c h1v
  go_enter Tryz.func397,Tryz.ntmps397
  go_wp2_with (simp only[hov])
  go_region_law_o (refine bJ rfl _ _ 192 192 rfl _ _ (by simp[Act.eval,Act.put]) (by simp[Act.eval,Act.put]) (hcp1 _ _ _) ?_)
  go_wp2_with (at_builtin;refine aP _ rfl _ _ 192 192 rfl _ _ rfl rfl (hcp2 _ (fun _=>rfl) (fun _=>rfl) _ _) ?_)
  go_ret
  first|exact⟨rfl,rfl⟩|exact⟨rfl,by rw[hW1]⟩
 grow:=by
  intro b off n c i vb voff m vc cs vs w hi hm hnc hroom hlim hcl hvl hbw hvw hcs hvs h1c h1v;obtain⟨t0,t3,t4,a0,a3,a4,z0,z3,z4,v0,v3,v4,u0,u3,u4⟩:=insB;obtain⟨t9,t24,a9,a24,z9,z24,v24,u24⟩:=insB397;have mixed:Tryz.prog.follows .mixedOrders=true:=by kernel_rfl
  obtain⟨i0,hi0,hz0,hzs,hzb⟩:∃i0,Tryz.prog.info? 236=some i0/\i0.zero=some (Value.agg #[.int .i64 0,.int .i64 0,.int .i64 0,.int .i64 0,.int .i64 0,.int .i64 0,.bool false,.string ⟨#[]⟩,.slice none 0 0,.string ⟨#[]⟩,.bool false])/\i0.size=11/\i0.bytes=120:=⟨_,rfl,rfl,rfl,rfl⟩;have hz1:¬((m:Int)=0):=by omega
  have hz2:¬((i:Int)=(n:Int)):=by omega
  have hz3:(c:Int)<(n:Int)+(m:Int):=by omega
  obtain⟨G,ROW,hGn,hRl,hRs,hRt,hG63,hrz,hcpA,hcpB⟩:=ga t24 t3 i0 (Value.agg #[.int .i64 0,.int .i64 0,.int .i64 0,.int .i64 0,.int .i64 0,.int .i64 0,.bool false,.string ⟨#[]⟩,.slice none 0 0,.string ⟨#[]⟩,.bool false]) hi0 hz0 hzs (by decide) (by rw[hzb];decide) (fun k=>by simp[Builtin.zeroCells,Value.cells]) b off n c i vb voff m vc cs vs w hi hm hnc hroom hlim hcl hvl hbw hvw hcs hvs h1c h1v;have hGi:¬(G=i):=by omega
  have hGim:¬(G=i+m):=by omega
  have hci:¬(c=i):=by omega
  have hE1:∀x,((w.alloc (.cells ROW 236)).drew).cell? x=(w.drew.alloc (.cells ROW 236)).cell? x:=fun x=>rfl;have hE2:∀x,((w.alloc (.cells ROW 236)).drew).frozen? x=(w.drew.alloc (.cells ROW 236)).frozen? x:=fun x=>rfl;have hF1:∀x,(((w.alloc (.cells ROW 236)).drew.setCells w.heap.size (i*11) vs).drew).cell? x=((w.drew.alloc (.cells ROW 236)).setCells w.heap.size (i*11) vs).cell? x:=fun x=>rfl;have hF2:∀x,(((w.alloc (.cells ROW 236)).drew.setCells w.heap.size (i*11) vs).drew).frozen? x=((w.drew.alloc (.cells ROW 236)).setCells w.heap.size (i*11) vs).frozen? x:=fun x=>rfl;have hw1:IntKind.i64.wrap ((i:Int)+(m:Int))=(i:Int)+(m:Int):=by rw[IntKind.wrap_i64];omega
  have hb1:(0:Int)<=(i:Int)+(m:Int):=by omega
  have hin:i<=n:=by omega
  have htn:((i:Int)+(m:Int)).toNat=i+m:=by omega
  have hb3:(i:Int)<=(n:Int):=by omega
  go_enter Tryz.func397,Tryz.ntmps397
  go_wp2_with (first
   |(at_builtin;refine Lib.wpList_append_run _ rfl _ _ _ _ rfl _ _ rfl rfl _ _ (hrz _) ?_)
   |(at_builtin;refine aP _ rfl _ _ 192 192 rfl _ _ rfl rfl (hcpA _ hE1 hE2 _ _) ?_)
   |(at_builtin;refine aP _ rfl _ _ 192 192 rfl _ _ rfl rfl (hcpB _ (fun _=>rfl) (fun _=>rfl) _ _ _) ?_))
  go_region_law_o (refine bJ rfl _ _ 192 192 rfl (.slice (some ⟨w.heap.size,(i+m)*11,none⟩) (n+m-(i+m)) (G-(i+m))) (.slice (some ⟨b,off+i*11,none⟩) (n-i) (c-i)) (by simp[Act.eval,Act.put]) (by simp[Act.eval,Act.put]) (hcpB _ hF1 hF2 3 (G-(i+m)) (c-i)) ?_)
  go_wp2
  go_ret
  exact⟨G,ROW,w.drew.drew.drawn,hGn,hRl,hRs,hRt,rfl,by first|rfl|(rw[bR];rfl)|(simp only[bR];rfl)⟩
end Sg
namespace Sg
open _root_.Go (IntKind BinOp UnOp)
variable {Pg:PgT}
def Yh {i n:Nat} (h:decide ((i:Int)<(n:Int))=true):i<n:=by simpa using h
def Yr {i n:Nat} (hi:i<=n) (h:decide ((i:Int)<(n:Int))=false):i=n:=by
 have:¬i<n:=by simpa using h
 omega
def Ym {i n:Nat} (h:i<n) (j:n<2 ^ 60):IntKind.i64.wrap ((i:Int)+1)=((i+1:Nat):Int):=bI (by omega) (by omega)
def sO {n:Nat} (h:0<n) (j:n<2 ^ 60):IntKind.i64.wrap ((n:Int)-1)=((n-1:Nat):Int):=by rw[bI (by omega) (by omega)];omega
theorem YH {α:Type} {l:List α} {i:Nat} {x:α} (h:l[i]?=some x):l.take (i+1)=l.take i++[x]:=by rw[GW,h];rfl
def oc {α:Type} {l:List α} {i:Nat} (h:i=l.length):l.take i=l:=by rw[h,Gw]
def zw {n:Nat}:decide ((0:Int)<(n:Int))=!decide (n=0):=by cases n<;>simp
def Cj {n:Nat}:decide ((0:Int)<((n+1:Nat):Int))=true:=by simp
def DT {a b:Nat}:decide ((a:Int)<=(b:Int))=decide (a<=b):=GU.2 (by omega)
end Sg
namespace Sg
open _root_.Go
def MP (n a b c d:Nat):1<=(Lib.decodeN n a b c d).2/\(Lib.decodeN n a b c d).2<=4:=by
 unfold Lib.decodeN
 repeat' split
 all_goals simp
def O7 (l:List UInt8):1<=(dN l).2:=(MP ..).1
def lT:Nat->List UInt8->List Int
 |0,_=>[]
 |f+1,l=>if l=[] then [] else ((dN l).1:Int)::lT f (l.drop (dN l).2)
def Yo (l:List UInt8):List Int:=lT l.length l
def mI {l:List UInt8} (h:l≠[]):(l.drop (dN l).2).length<l.length:=by
 have:=O7 l;have:0<l.length:=pn.2 h;rw[GX];omega
theorem yN:∀(f:Nat) (l:List UInt8),l.length<=f->lT f l=Yo l
 |0,l,h=>by
  obtain rfl:l=[]:=GA (by omega)
  rfl
 |f+1,l,h=>by
  by_cases j:l=[]
  ·subst j;simp[lT,Yo]
  ·have q:=mI j;have h1:=yN f (l.drop (dN l).2) (by omega);obtain⟨n,p⟩:∃n,l.length=n+1:=⟨l.length-1,by omega⟩;have o:lT n (l.drop (dN l).2)=Yo (l.drop (dN l).2):=yN n _ (by omega);have e:Yo l=((dN l).1:Int)::lT n (l.drop (dN l).2):=by
    rw[Yo,p];simp only[lT,j,GO]
   rw[e,o];simp only[lT,j,GO,h1]
 termination_by f=>f
theorem sL:Yo []=[]:=rfl
def oV {l:List UInt8} (h:l≠[]):Yo l=((dN l).1:Int)::Yo (l.drop (dN l).2):=by
 have o:=mI h;obtain⟨n,j⟩:∃n,l.length=n+1:=⟨l.length-1,by omega⟩;rw[Yo,j];simp only[lT,h,GO];rw[yN n _ (by omega)]
theorem yO:∀(n:Nat) (l:List UInt8),l.length<=n->(Yo l).length<=l.length
 |0,l,h=>by
  obtain rfl:l=[]:=GA (by omega);simp[sL]
 |n+1,l,h=>by
  by_cases j:l=[]
  ·subst j;simp[sL]
  ·have o:=mI j;have:=yO n (l.drop (dN l).2) (by omega);rw[oV j];simp only[List.length_cons];omega
theorem yZ:∀(f:Nat) (l:List UInt8),l.length<=f->bx f l=bx l.length l
 |0,l,h=>by
  obtain rfl:l=[]:=GA (by omega)
  rfl
 |f+1,l,h=>by
  by_cases j:l=[]
  ·subst j;simp[bx]
  ·have q:=mI j;have h1:=yZ f (l.drop (dN l).2) (by omega);obtain⟨n,p⟩:∃n,l.length=n+1:=⟨l.length-1,by omega⟩;have o:=yZ n (l.drop (dN l).2) (by omega);have e:bx l.length l=(dk (dN l).1 (dN l).2&&bx n (l.drop (dN l).2)):=by
    rw[p];simp only[bx,j,GO]
   rw[e,o];simp only[bx,j,GO,h1]
 termination_by f=>f
def MB {f:Nat}:bx f []=true:=by cases f<;>simp[bx]
def Mr {l:List UInt8} (h:l≠[]):bx l.length l=(dk (dN l).1 (dN l).2&&bx (l.drop (dN l).2).length (l.drop (dN l).2)):=by
 have o:=mI h;obtain⟨n,j⟩:∃n,l.length=n+1:=⟨l.length-1,by omega⟩;rw[j];simp only[bx,h,GO];rw[yZ n _ (by omega)]
def fb:Int->List UInt8->Option Int
 |a,[]=>some a
 |a,b::l=>if b.toNat<128\/191<b.toNat then none else fb (64*a+b.toNat-128) l
def eU (a:Int):Nat×Int×Int:=
 if 194<=a/\a<224 then (2,128,a-192) else if 224<=a/\a<240 then (3,2048,a-224) else if 240<=a/\a<245 then (4,65536,a-240) else (0,0,a)
def fK (l:List UInt8):Int×Int:=
 match l with
 |[]=>(-1,1)
 |b::t=>if b.toNat<128 then ((b.toNat:Int),1) else
  if (eU b.toNat).1=0\/l.length<(eU b.toNat).1 then (-1,1) else
   match fb (eU b.toNat).2.2 (t.take ((eU b.toNat).1-1)) with
   |none=>(-1,1)
   |some v=>if v<(eU b.toNat).2.1\/1114111<v\/(55296<=v/\v<57344) then (-1,1) else (v,(eU b.toNat).1)
def DB {n a b c d:Nat} (h:(128<=a/\a<194)\/(245<=a/\a<256)):Lib.decodeN n a b c d=(65533,1):=by
 unfold Lib.decodeN
 repeat' split
 all_goals first|(exfalso;omega)|rfl
def vK {n a b c d:Nat} (h:194<=a/\a<224):Lib.decodeN n a b c d=if 1<n/\b / 64=2 then (a % 32*64+b % 64,2) else (65533,1):=by
 unfold Lib.decodeN
 repeat' split
 all_goals first|(exfalso;omega)|rfl
def vL {n a b c d:Nat} (h:224<=a/\a<240):Lib.decodeN n a b c d=if (1<n/\b / 64=2)/\(2<n/\c / 64=2)/\2048<=a % 16*4096+b % 64*64+c % 64/\(a % 16*4096+b % 64*64+c % 64<55296\/57344<=a % 16*4096+b % 64*64+c % 64) then (a % 16*4096+b % 64*64+c % 64,3) else (65533,1):=by
 unfold Lib.decodeN
 repeat' split
 all_goals first|(exfalso;omega)|rfl
def tn {n a b c d:Nat} (h:240<=a/\a<245):Lib.decodeN n a b c d=if (1<n/\b / 64=2)/\(2<n/\c / 64=2)/\(3<n/\d / 64=2)/\65536<=a % 8*262144+b % 64*4096+c % 64*64+d % 64/\a % 8*262144+b % 64*4096+c % 64*64+d % 64<=1114111 then (a % 8*262144+b % 64*4096+c % 64*64+d % 64,4) else (65533,1):=by
 unfold Lib.decodeN
 repeat' split
 all_goals first|(exfalso;omega)|rfl
def DC {n a b c d:Nat} (h:a<128):Lib.decodeN n a b c d=(a,1):=by
 unfold Lib.decodeN;rw[GE h]
def yS {b:UInt8}:(b.toNat<128\/191<b.toNat)↔¬b.toNat / 64=2:=by omega
def vr {l:List UInt8} (h:l≠[]):fK l=if dN l=(65533,1) then (-1,1) else (((dN l).1:Int),((dN l).2:Int)):=by
 obtain⟨b0,t,rfl⟩:=List.exists_cons_of_ne_nil h;have O:=b0.toNat_lt;have H:(b0::t).getD 0 0=b0:=rfl;have I:(b0::t).getD 1 0=t.getD 0 0:=rfl;have J:(b0::t).getD 2 0=t.getD 1 0:=rfl;have L:(b0::t).getD 3 0=t.getD 2 0:=rfl;simp only[fK,dN,H,I,J,L,List.length_cons];by_cases u:b0.toNat<128
 ·rw[GE u,DC u,Gu (by intro e;simp at e;omega)];rfl
 rw[Gu u];by_cases D:194<=b0.toNat/\b0.toNat<224
 ·rw[vK D,show eU b0.toNat=(2,128,(b0.toNat:Int)-192) from GE (by omega)]
  match t with
  |[]=>simp
  |b1::t=>
   have B:=b1.toNat_lt;simp only[po,List.length_cons,List.take_succ_cons,List.take_zero,fb,yS];by_cases j:b1.toNat / 64=2
   ·have e:(1<t.length+1+1/\b1.toNat / 64=2):=⟨by omega,j⟩;simp only[j,e];simp
    repeat' split
    all_goals first|(exfalso;omega)|(simp;omega)|omega
   ·simp[j]
 by_cases c3:224<=b0.toNat/\b0.toNat<240
 ·rw[vL c3,show eU b0.toNat=(3,2048,(b0.toNat:Int)-224) from by rw[eU,Gu (by omega),GE (by omega)]]
  match t with
  |[]=>simp
  |[b1]=>simp
  |b1::b2::t=>
   have B:=b1.toNat_lt;have N:=b2.toNat_lt;simp only[po,List.getD_cons_succ,List.length_cons,List.take_succ_cons,List.take_zero,fb,yS];by_cases j:b1.toNat / 64=2
   ·by_cases q:b2.toNat / 64=2
    ·have y:64*(64*((b0.toNat:Int)-224)+b1.toNat-128)+b2.toNat-128=((b0.toNat % 16*4096+b1.toNat % 64*64+b2.toNat % 64:Nat):Int):=by omega
     have w:¬(3=0\/t.length+1+1+1<3):=by omega
     simp only[j,q,not_true_eq_false,GO,y,w];obtain⟨v,p,M⟩:∃v,b0.toNat % 16*4096+b1.toNat % 64*64+b2.toNat % 64=v/\v<65536:=⟨_,rfl,by omega⟩;rw[p];by_cases c:2048<=v/\(v<55296\/57344<=v)
     ·have o:(if (1<t.length+1+1+1/\True)/\(2<t.length+1+1+1/\True)/\2048<=v/\(v<55296\/57344<=v) then (v,3) else ((65533,1):Nat×Nat))=(v,3):=GE ⟨⟨by omega,Gs⟩,⟨by omega,Gs⟩,c.1,c.2⟩;rw[o,Gu (by omega),Gu (by intro e;simp at e)]
     ·have o:(if (1<t.length+1+1+1/\True)/\(2<t.length+1+1+1/\True)/\2048<=v/\(v<55296\/57344<=v) then (v,3) else ((65533,1):Nat×Nat))=(65533,1):=Gu (fun e=>c ⟨e.2.2.1,e.2.2.2⟩);rw[o,GE (by omega),GE rfl]
    ·simp[j,q]
   ·simp[j]
 by_cases E:240<=b0.toNat/\b0.toNat<245
 ·rw[tn E,show eU b0.toNat=(4,65536,(b0.toNat:Int)-240) from by rw[eU,Gu (by omega),Gu (by omega),GE (by omega)]]
  match t with
  |[]=>simp
  |[b1]=>simp
  |[b1,b2]=>simp
  |b1::b2::b3::t=>
   have B:=b1.toNat_lt;have N:=b2.toNat_lt;have P:=b3.toNat_lt;simp only[po,List.getD_cons_succ,List.length_cons,List.take_succ_cons,List.take_zero,fb,yS];by_cases j:b1.toNat / 64=2
   ·by_cases q:b2.toNat / 64=2
    ·by_cases z:b3.toNat / 64=2
     ·have y:64*(64*(64*((b0.toNat:Int)-240)+b1.toNat-128)+b2.toNat-128)+b3.toNat-128=((b0.toNat % 8*262144+b1.toNat % 64*4096+b2.toNat % 64*64+b3.toNat % 64:Nat):Int):=by omega
      have w:¬(4=0\/t.length+1+1+1+1<4):=by omega
      simp only[j,q,z,not_true_eq_false,GO,y,w];obtain⟨v,p⟩:∃v,b0.toNat % 8*262144+b1.toNat % 64*4096+b2.toNat % 64*64+b3.toNat % 64=v:=⟨_,rfl⟩;rw[p];by_cases c:65536<=v/\v<=1114111
      ·have o:(if (1<t.length+1+1+1+1/\True)/\(2<t.length+1+1+1+1/\True)/\(3<t.length+1+1+1+1/\True)/\65536<=v/\v<=1114111 then (v,4) else ((65533,1):Nat×Nat))=(v,4):=GE ⟨⟨by omega,Gs⟩,⟨by omega,Gs⟩,⟨by omega,Gs⟩,c.1,c.2⟩;rw[o,Gu (by omega),Gu (by intro e;simp at e)]
      ·have o:(if (1<t.length+1+1+1+1/\True)/\(2<t.length+1+1+1+1/\True)/\(3<t.length+1+1+1+1/\True)/\65536<=v/\v<=1114111 then (v,4) else ((65533,1):Nat×Nat))=(65533,1):=Gu (fun e=>c ⟨e.2.2.2.1,e.2.2.2.2⟩);rw[o,GE (by omega),GE rfl]
     ·simp[j,q,z]
    ·simp[j,q]
   ·simp[j]
 rw[DB (by omega),show eU b0.toNat=(0,0,(b0.toNat:Int)) from by rw[eU,Gu (by omega),Gu (by omega),Gu (by omega)]];simp
def CB {l:List UInt8} (h:l≠[]):dN l=(65533,1)\/(∃b0 t,l=b0::t/\b0.toNat<128/\dN l=(b0.toNat,1))\/
  (∃b0 b1 t,l=b0::b1::t/\(194<=b0.toNat/\b0.toNat<224)/\b1.toNat / 64=2/\dN l=(b0.toNat % 32*64+b1.toNat % 64,2))\/
  (∃b0 b1 b2 t,l=b0::b1::b2::t/\(224<=b0.toNat/\b0.toNat<240)/\b1.toNat / 64=2/\b2.toNat / 64=2/\2048<=b0.toNat % 16*4096+b1.toNat % 64*64+b2.toNat % 64/\dN l=(b0.toNat % 16*4096+b1.toNat % 64*64+b2.toNat % 64,3))\/
  (∃b0 b1 b2 b3 t,l=b0::b1::b2::b3::t/\(240<=b0.toNat/\b0.toNat<245)/\b1.toNat / 64=2/\b2.toNat / 64=2/\b3.toNat / 64=2/\65536<=b0.toNat % 8*262144+b1.toNat % 64*4096+b2.toNat % 64*64+b3.toNat % 64/\dN l=(b0.toNat % 8*262144+b1.toNat % 64*4096+b2.toNat % 64*64+b3.toNat % 64,4)):=by
 obtain⟨b0,t,rfl⟩:=List.exists_cons_of_ne_nil h
 have H:=b0.toNat_lt
 have j:(b0::t).getD 0 0=b0:=rfl
 have z:(b0::t).getD 1 0=t.getD 0 0:=rfl
 have D:(b0::t).getD 2 0=t.getD 1 0:=rfl
 have E:(b0::t).getD 3 0=t.getD 2 0:=rfl
 by_cases y:b0.toNat<128
 ·exact .inr (.inl ⟨b0,t,rfl,y,by rw[dN,j,DC y]⟩)
 by_cases q:194<=b0.toNat/\b0.toNat<224
 ·match t with
  |[]=>left;rw[dN,j,vK q];simp
  |b1::t=>
   by_cases d:b1.toNat / 64=2
   ·exact .inr (.inr (.inl ⟨b0,b1,t,rfl,q,d,by rw[dN,j,vK q,GE ⟨by simp,by simpa [z] using d⟩];rfl⟩))
   ·left;rw[dN,j,vK q,Gu (fun e=>d (by simpa [z] using e.2))]
 by_cases c3:224<=b0.toNat/\b0.toNat<240
 ·match t with
  |[]=>left;rw[dN,j,vL c3];simp
  |[b1]=>left;rw[dN,j,vL c3];simp
  |b1::b2::t=>
   have u:(b0::b1::b2::t).getD 1 0=b1:=rfl
   have w:(b0::b1::b2::t).getD 2 0=b2:=rfl
   rw[dN,j,u,w,vL c3]
   split
   ·rename_i o
    exact .inr (.inr (.inr (.inl ⟨b0,b1,b2,t,rfl,c3,o.1.2,o.2.1.2,o.2.2.1,rfl⟩)))
   ·exact .inl rfl
 by_cases p:240<=b0.toNat/\b0.toNat<245
 ·match t with
  |[]=>left;rw[dN,j,tn p];simp
  |[b1]=>left;rw[dN,j,tn p];simp
  |[b1,b2]=>left;rw[dN,j,tn p];simp
  |b1::b2::b3::t=>
   have u:(b0::b1::b2::b3::t).getD 1 0=b1:=rfl
   have w:(b0::b1::b2::b3::t).getD 2 0=b2:=rfl
   have B:(b0::b1::b2::b3::t).getD 3 0=b3:=rfl
   rw[dN,j,u,w,B,tn p]
   split
   ·rename_i o
    exact .inr (.inr (.inr (.inr ⟨b0,b1,b2,b3,t,rfl,p,o.1.2,o.2.1.2,o.2.2.1.2,o.2.2.2.1,rfl⟩)))
   ·exact .inl rfl
 ·left;rw[dN,j,DB (by omega)]
def Yu:List Int->List Int->Int
 |[],[]=>0
 |[],_::_=>-1
 |_::_,[]=>1
 |a::l,b::k=>if a<b then -1 else if b<a then 1 else Yu l k
theorem CI:∀(a b:List Int),Yu a b=-1\/Yu a b=0\/Yu a b=1
 |[],[]=>by simp[Yu]
 |[],_::_=>by simp[Yu]
 |_::_,[]=>by simp[Yu]
 |a::l,b::k=>by
  simp only[Yu];split
  ·simp
  ·split
   ·simp
   ·exact CI l k
theorem Cp:∀(a b:List Int),Yu b a=- Yu a b
 |[],[]=>by simp[Yu]
 |[],_::_=>by simp[Yu]
 |_::_,[]=>by simp[Yu]
 |a::l,b::k=>by
  simp only[Yu];have:=Cp l k
  repeat' split
  all_goals omega
def o7 {a b:Int} {l k:List Int} (h:a<b):Yu (a::l) (b::k)=-1:=by simp[Yu,h]
def sR {a b:Int} {l k:List Int} (h:b<a):Yu (a::l) (b::k)=1:=by
 have:¬a<b:=by omega
 simp[Yu,h,this]
def sQ {a:Int} {l k:List Int}:Yu (a::l) (a::k)=Yu l k:=by simp[Yu]
theorem C3:∀(a b c:List Int),Yu a b<=0->Yu b c<=0->Yu a c<=0/\(Yu a b<0\/Yu b c<0->Yu a c<0)
 |[],[],c,h1,h2=>by
  have:Yu [] []=0:=rfl;omega
 |[],_::_,[],h1,h2=>by simp[Yu] at h2
 |[],_::_,_::_,h1,h2=>by simp[Yu]
 |_::_,[],_,h1,h2=>by simp[Yu] at h1
 |a::l,b::k,[],h1,h2=>by simp[Yu] at h2
 |a::l,b::k,c::m,h1,h2=>by
  have j:=C3 l k m;rcases Int.lt_trichotomy a b with p|p|p
  ·rw[o7 p] at h1 ⊢;rcases Int.lt_trichotomy b c with q|q|q
   ·rw[o7 (show a<c by omega)];omega
   ·rw[o7 (show a<c by omega)];omega
   ·rw[sR q] at h2;omega
  ·subst p;rw[sQ] at h1 ⊢;rcases Int.lt_trichotomy a c with q|q|q
   ·rw[o7 q];omega
   ·subst q;rw[sQ] at h2 ⊢;rw[sQ];exact j h1 h2
   ·rw[sR q] at h2;omega
  ·rw[sR p] at h1;omega
end Sg
namespace Sg
open _root_.Go (IntKind BinOp UnOp)
variable {Pg:PgT}
@[go_sem] theorem Qn {b:UInt8} {t:List UInt8} {k:IntKind}:mz (.str (b::t)) (.int k 0)=some (.int .u8 b.toNat):=rfl
@[go_sem high] theorem Qm {s:List UInt8} {z:Nat} {k:IntKind} {n:Nat} (h:n<=s.length):kr true z (.str s) (some (.int k (n:Int))) none=some (.str (s.drop n)):=by
 simp[kr,cY,h]
def py:=HpZ 191 F191
def xk (h:py Pg) (r n:Int):K' Pg 191 [.int .i32 r,.int .i64 n]=some (.bool (dk r n)):=by
 refine aA h rfl ?_;simp only[go_sem];cases j:decide (33<=r)<;>cases o:decide (r<127)<;>cases c3:decide (159<r)<;>cases p:decide (r=65533)<;>cases q:decide (n=3) <;>
  simp only[go_sem,dk,j,o,c3,p,q]
def px (Pg:PgT):Prop:=Pg 190=some (.prim none kh)
theorem rU (h:px Pg) (s:List UInt8):K' Pg 190 [.str s]=some (.tuple [.int .i32 (jW s).1,.int .i64 (jW s).2]):=by
 rw[xd h];rfl
def lc (Pg:PgT):Prop:=Pg 170=some (.prim none jk)
theorem lC (h:lc Pg) (s:List UInt8):K' Pg 170 [.str s]=some (.bool (cM s)):=by
 rw[xd h];rfl
def vD (c:Int):Bool:=decide (32<c)&&(!decide (c=127)&&(decide (c<128)||decide (159<c)))
def pw:=HpZ 189 F189
def xj (h:pw Pg) (c:Int):K' Pg 189 [iz c]=some (.bool (vD c)):=by
 refine aA h rfl ?_;simp only[go_sem];cases j:decide (32<c)<;>cases o:decide (c=127)<;>cases c3:decide (c<128)<;>cases p:decide (159<c) <;>
  simp only[go_sem,vD,j,o,c3,p]
def MJ {l:List UInt8} (h:l≠[]):vD (fK l).1=dk (dN l).1 (dN l).2:=by
 rw[vr h];by_cases c:dN l=(65533,1)
 ·rw[GE c,c];decide
 ·rw[Gu c];simp only[vD,dk];have j:(dN l).1=65533->(dN l).2=3:=fun e=>by
   rcases CB h with x|⟨o,t,rfl,q,x⟩|⟨o,a1,t,rfl,q,p,x⟩|⟨o,a1,a2,t,rfl,q,p,u,w,x⟩|⟨o,a1,a2,a3,t,rfl,q,p,u,w,y,x⟩
   ·exact absurd x c
   all_goals (rw[x] at e ⊢;try (simp only at e ⊢;try omega))
  generalize (dN l).1=r at j ⊢;generalize (dN l).2=n at j ⊢;rw[Bool.eq_iff_iff];simp only[Gg,kZ,Gn,GI,GM];omega
@[go_sem] def zN (x:Int×Int):V:=.tuple [iz x.1,iz x.2]
def nq:=HpZ 188 F188
theorem yM:∀{l:List UInt8} {a:Int} {b:UInt8},fb a (l++[b])=(fb a l).bind fun v=>if b.toNat<128\/191<b.toNat then none else some (64*v+b.toNat-128)
 |[],a,b=>by simp[fb]
 |c::l,a,b=>by
  simp only[fb,List.cons_append];split
  ·rfl
  ·exact yM
theorem vp:∀{l k:List UInt8} {a:Int},fb a l=none->fb a (l++k)=none
 |[],k,a,h=>by simp[fb] at h
 |c::l,k,a,h=>by
  simp only[fb,List.cons_append] at h ⊢;split
  ·rfl
  ·rename_i j;rw[Gu j] at h;exact vp h
def rT (h:nq Pg) (s:List UInt8) (hs:s≠[]):K' Pg 188 [.str s]=some (zN (fK s)):=by
 refine aA h rfl ?_;obtain⟨b0,t,rfl⟩:=List.exists_cons_of_ne_nil hs;have l0:=b0.toNat_lt;have w8:IntKind.i64.wrap (b0.toNat:Int)=b0.toNat:=bI (by omega) (by omega);have aa:IntKind.i64.wrap ((b0.toNat:Int)-192)=b0.toNat-192:=bI (by omega) (by omega);have ab:IntKind.i64.wrap ((b0.toNat:Int)-224)=b0.toNat-224:=bI (by omega) (by omega);have ac:IntKind.i64.wrap ((b0.toNat:Int)-240)=b0.toNat-240:=bI (by omega) (by omega);simp only[go_sem,w8];refine bL (fun Q=>?_) (fun Q=>?_)
 ·have Q:=Gk Q;have e:fK (b0::t)=((b0.toNat:Int),(1:Int)):=by simp only[fK];rw[GE (by omega)]
  rw[e];simp only[go_sem]
 have Q:=Ge Q;have j:fK (b0::t)=if (eU b0.toNat).1=0\/(b0::t).length<(eU b0.toNat).1 then (-1,1) else
   match fb (eU b0.toNat).2.2 (t.take ((eU b0.toNat).1-1)) with
   |none=>(-1,1)
   |some v=>if v<(eU b0.toNat).2.1\/1114111<v\/(55296<=v/\v<57344) then (-1,1) else (v,((eU b0.toNat).1:Int)):=by
  simp only[fK];rw[Gu (by omega)]<;>rfl
 simp only[go_sem];cases c2:decide (194<=(b0.toNat:Int)) with
 |false=>
  have w:eU b0.toNat=(0,0,(b0.toNat:Int)):=by
   have:=Ge c2;rw[eU,Gu (by omega),Gu (by omega),Gu (by omega)]
  have B:decide (224<=(b0.toNat:Int))=false:=Gq (by have:=Ge c2;omega);have d3:decide (240<=(b0.toNat:Int))=false:=Gq (by have:=Ge c2;omega);rw[w,GE (.inl rfl)] at j;rw[j];simp only[go_sem,B,d3]
 |true=>
 have ad:=Gk c2;simp only[go_sem];refine bL (fun c3=>?_) (fun c3=>?_)
 ·have c3:=Gk c3;have w:eU b0.toNat=(2,128,(b0.toNat:Int)-192):=GE (by omega);simp only[go_sem,aa];rw[w] at j;simp only at j;refine bL (fun p=>?_) (fun p=>?_)
  ·have p:=Gk p;rw[GE (.inr (by simp only[List.length_cons];omega))] at j;rw[j];simp only[go_sem]
  have p:=Ge p;have p:2<=t.length+1:=by omega
  rw[Gu (by simp only[List.length_cons];omega)] at j;simp only[go_sem];unfold l188_0;refine bE (fun (i:Nat) S=>(1<=i/\i<=2)/\S.ρ 0=.str (b0::t)/\S.ρ 5=iz 2/\S.ρ 6=iz 128/\S.ρ 7=iz i/\∃v,S.ρ 4=iz v/\fb ((b0.toNat:Int)-192) (t.take (i-1))=some v/\0<=v/\v<64 ^ i) (fun i=>2-i) 1 ?_ ?_
  ·simp[go_sem,fb];omega
  ·intro i S ⟨hi,h0,E,P,H,v,u,J,v0,Z⟩;have v2:v<16777216:=by
    have:i=1\/i=2\/i=3\/i=4:=by omega
    rcases this with rfl|rfl|rfl|rfl<;>simp at Z<;>omega
   simp only[go_sem,E,H];refine bL (fun h=>?_) (fun h=>?_)
   ·have h:i<2:=by have:=Gk h;omega
    obtain⟨b,I⟩:∃b,(b0::t)[i]?=some b:=⟨_,List.getElem?_eq_getElem (by simp only[List.length_cons];omega)⟩;have L:t[i-1]?=some b:=by
     obtain⟨k,rfl⟩:∃k,i=k+1:=⟨i-1,by omega⟩;simpa using I
    have lb:=b.toNat_lt;have M:t.take (i+1-1)=t.take (i-1)++[b]:=by
     have:=YH L;rwa [show i-1+1=i+1-1 by omega] at this
    have o:=yM (l:=t.take (i-1)) (a:=((b0.toNat:Int)-192)) (b:=b);rw[J,Option.bind_some,<-M] at o;have wb:IntKind.i64.wrap (b.toNat:Int)=b.toNat:=bI (by omega) (by omega);have w1:IntKind.i64.wrap (64*v)=64*v:=bI (by omega) (by omega);have w2:IntKind.i64.wrap (64*v+b.toNat)=64*v+b.toNat:=bI (by omega) (by omega);have w3:IntKind.i64.wrap (64*v+b.toNat-128)=64*v+b.toNat-128:=bI (by omega) (by omega);have bad:(b.toNat<128\/191<b.toNat)->fK (b0::t)=(-1,1):=fun z=>by
     rw[GE z] at o;have:fb ((b0.toNat:Int)-192) (t.take (2-1))=none:=by
      have e:t.take (2-1)=t.take (i+1-1)++(t.take (2-1)).drop (i+1-1):=by
       have:=GZ (i+1-1) (t.take (2-1));rw[List.take_take,Nat.min_eq_left (by omega)] at this;exact this.symm
      rw[e];exact vp o
     rw[j,this]
    simp only[go_sem,h0,H,I];cases N:decide ((b.toNat:Int)<128) with
    |true=>
     have:=bad (.inl (by have:=Gk N;omega));rw[this];simp only[go_sem]
    |false=>
     have U:=Ge N;simp only[go_sem,h0,H,I];refine bL (fun B=>?_) (fun B=>?_)
     ·have:=bad (.inr (by have:=Gk B;omega));rw[this];simp only[go_sem]
     ·have W:=Ge B;rw[Gu (by omega)] at o;simp only[go_sem,h0,u,E,P,H,I,wb,w1,w2,w3];refine⟨i+1,by omega,by omega,by rw[Ym h (by omega)],_,rfl,o,by omega,?_⟩;rw[Int.pow_succ];omega
   ·have h:i=2:=by have:=Ge h;omega
    subst h;have J:fb ((b0.toNat:Int)-192) (t.take (2-1))=some v:=J;rw[J] at j;simp only at j;simp only[go_sem,u,P];cases O:decide (v<128) with
    |true=>
     rw[GE (.inl (Gk O))] at j;rw[j];simp only[go_sem]
    |false=>
    cases q:decide (1114111<v) with
    |true=>
     rw[GE (.inr (.inl (Gk q)))] at j;rw[j];simp only[go_sem,q,u]
    |false=>
    have X:=Ge O;have Y:=Ge q;cases y:decide (55296<=v) with
    |false=>
     rw[Gu (by have:=Ge y;omega)] at j;rw[j];simp only[go_sem,q,y,u,E]
    |true=>
    cases D:decide (v<57344) with
    |true=>
     rw[GE (.inr (.inr ⟨Gk y,Gk D⟩))] at j;rw[j];simp only[go_sem,q,y,D,u]
    |false=>
     rw[Gu (by have:=Ge D;omega)] at j;rw[j];simp only[go_sem,q,y,D,u,E]
 have c3:=Ge c3;have B:decide (224<=(b0.toNat:Int))=true:=GC (by omega);simp only[go_sem,B];refine bL (fun R=>?_) (fun R=>?_)
 ·have R:=Gk R;have w:eU b0.toNat=(3,2048,(b0.toNat:Int)-224):=by rw[eU,Gu (by omega),GE (by omega)]
  simp only[go_sem,ab];rw[w] at j;simp only at j;refine bL (fun p=>?_) (fun p=>?_)
  ·have p:=Gk p;rw[GE (.inr (by simp only[List.length_cons];omega))] at j;rw[j];simp only[go_sem]
  have p:=Ge p;have p:3<=t.length+1:=by omega
  rw[Gu (by simp only[List.length_cons];omega)] at j;simp only[go_sem];unfold l188_0;refine bE (fun (i:Nat) S=>(1<=i/\i<=3)/\S.ρ 0=.str (b0::t)/\S.ρ 5=iz 3/\S.ρ 6=iz 2048/\S.ρ 7=iz i/\∃v,S.ρ 4=iz v/\fb ((b0.toNat:Int)-224) (t.take (i-1))=some v/\0<=v/\v<64 ^ i) (fun i=>3-i) 1 ?_ ?_
  ·simp[go_sem,fb];omega
  ·intro i S ⟨hi,h0,E,P,H,v,u,J,v0,Z⟩;have v2:v<16777216:=by
    have:i=1\/i=2\/i=3\/i=4:=by omega
    rcases this with rfl|rfl|rfl|rfl<;>simp at Z<;>omega
   simp only[go_sem,E,H];refine bL (fun h=>?_) (fun h=>?_)
   ·have h:i<3:=by have:=Gk h;omega
    obtain⟨b,I⟩:∃b,(b0::t)[i]?=some b:=⟨_,List.getElem?_eq_getElem (by simp only[List.length_cons];omega)⟩;have L:t[i-1]?=some b:=by
     obtain⟨k,rfl⟩:∃k,i=k+1:=⟨i-1,by omega⟩;simpa using I
    have lb:=b.toNat_lt;have M:t.take (i+1-1)=t.take (i-1)++[b]:=by
     have:=YH L;rwa [show i-1+1=i+1-1 by omega] at this
    have o:=yM (l:=t.take (i-1)) (a:=((b0.toNat:Int)-224)) (b:=b);rw[J,Option.bind_some,<-M] at o;have wb:IntKind.i64.wrap (b.toNat:Int)=b.toNat:=bI (by omega) (by omega);have w1:IntKind.i64.wrap (64*v)=64*v:=bI (by omega) (by omega);have w2:IntKind.i64.wrap (64*v+b.toNat)=64*v+b.toNat:=bI (by omega) (by omega);have w3:IntKind.i64.wrap (64*v+b.toNat-128)=64*v+b.toNat-128:=bI (by omega) (by omega);have bad:(b.toNat<128\/191<b.toNat)->fK (b0::t)=(-1,1):=fun z=>by
     rw[GE z] at o;have:fb ((b0.toNat:Int)-224) (t.take (3-1))=none:=by
      have e:t.take (3-1)=t.take (i+1-1)++(t.take (3-1)).drop (i+1-1):=by
       have:=GZ (i+1-1) (t.take (3-1));rw[List.take_take,Nat.min_eq_left (by omega)] at this;exact this.symm
      rw[e];exact vp o
     rw[j,this]
    simp only[go_sem,h0,H,I];cases N:decide ((b.toNat:Int)<128) with
    |true=>
     have:=bad (.inl (by have:=Gk N;omega));rw[this];simp only[go_sem]
    |false=>
     have U:=Ge N;simp only[go_sem,h0,H,I];refine bL (fun B=>?_) (fun B=>?_)
     ·have:=bad (.inr (by have:=Gk B;omega));rw[this];simp only[go_sem]
     ·have W:=Ge B;rw[Gu (by omega)] at o;simp only[go_sem,h0,u,E,P,H,I,wb,w1,w2,w3];refine⟨i+1,by omega,by omega,by rw[Ym h (by omega)],_,rfl,o,by omega,?_⟩;rw[Int.pow_succ];omega
   ·have h:i=3:=by have:=Ge h;omega
    subst h;have J:fb ((b0.toNat:Int)-224) (t.take (3-1))=some v:=J;rw[J] at j;simp only at j;simp only[go_sem,u,P];cases O:decide (v<2048) with
    |true=>
     rw[GE (.inl (Gk O))] at j;rw[j];simp only[go_sem]
    |false=>
    cases q:decide (1114111<v) with
    |true=>
     rw[GE (.inr (.inl (Gk q)))] at j;rw[j];simp only[go_sem,q,u]
    |false=>
    have X:=Ge O;have Y:=Ge q;cases y:decide (55296<=v) with
    |false=>
     rw[Gu (by have:=Ge y;omega)] at j;rw[j];simp only[go_sem,q,y,u,E]
    |true=>
    cases D:decide (v<57344) with
    |true=>
     rw[GE (.inr (.inr ⟨Gk y,Gk D⟩))] at j;rw[j];simp only[go_sem,q,y,D,u]
    |false=>
     rw[Gu (by have:=Ge D;omega)] at j;rw[j];simp only[go_sem,q,y,D,u,E]
 have R:=Ge R;have d3:decide (240<=(b0.toNat:Int))=true:=GC (by omega);simp only[go_sem,d3];refine bL (fun T=>?_) (fun T=>?_)
 ·have T:=Gk T;have w:eU b0.toNat=(4,65536,(b0.toNat:Int)-240):=by rw[eU,Gu (by omega),Gu (by omega),GE (by omega)]
  simp only[go_sem,ac];rw[w] at j;simp only at j;refine bL (fun p=>?_) (fun p=>?_)
  ·have p:=Gk p;rw[GE (.inr (by simp only[List.length_cons];omega))] at j;rw[j];simp only[go_sem]
  have p:=Ge p;have p:4<=t.length+1:=by omega
  rw[Gu (by simp only[List.length_cons];omega)] at j;simp only[go_sem];unfold l188_0;refine bE (fun (i:Nat) S=>(1<=i/\i<=4)/\S.ρ 0=.str (b0::t)/\S.ρ 5=iz 4/\S.ρ 6=iz 65536/\S.ρ 7=iz i/\∃v,S.ρ 4=iz v/\fb ((b0.toNat:Int)-240) (t.take (i-1))=some v/\0<=v/\v<64 ^ i) (fun i=>4-i) 1 ?_ ?_
  ·simp[go_sem,fb];omega
  ·intro i S ⟨hi,h0,E,P,H,v,u,J,v0,Z⟩;have v2:v<16777216:=by
    have:i=1\/i=2\/i=3\/i=4:=by omega
    rcases this with rfl|rfl|rfl|rfl<;>simp at Z<;>omega
   simp only[go_sem,E,H];refine bL (fun h=>?_) (fun h=>?_)
   ·have h:i<4:=by have:=Gk h;omega
    obtain⟨b,I⟩:∃b,(b0::t)[i]?=some b:=⟨_,List.getElem?_eq_getElem (by simp only[List.length_cons];omega)⟩;have L:t[i-1]?=some b:=by
     obtain⟨k,rfl⟩:∃k,i=k+1:=⟨i-1,by omega⟩;simpa using I
    have lb:=b.toNat_lt;have M:t.take (i+1-1)=t.take (i-1)++[b]:=by
     have:=YH L;rwa [show i-1+1=i+1-1 by omega] at this
    have o:=yM (l:=t.take (i-1)) (a:=((b0.toNat:Int)-240)) (b:=b);rw[J,Option.bind_some,<-M] at o;have wb:IntKind.i64.wrap (b.toNat:Int)=b.toNat:=bI (by omega) (by omega);have w1:IntKind.i64.wrap (64*v)=64*v:=bI (by omega) (by omega);have w2:IntKind.i64.wrap (64*v+b.toNat)=64*v+b.toNat:=bI (by omega) (by omega);have w3:IntKind.i64.wrap (64*v+b.toNat-128)=64*v+b.toNat-128:=bI (by omega) (by omega);have bad:(b.toNat<128\/191<b.toNat)->fK (b0::t)=(-1,1):=fun z=>by
     rw[GE z] at o;have:fb ((b0.toNat:Int)-240) (t.take (4-1))=none:=by
      have e:t.take (4-1)=t.take (i+1-1)++(t.take (4-1)).drop (i+1-1):=by
       have:=GZ (i+1-1) (t.take (4-1));rw[List.take_take,Nat.min_eq_left (by omega)] at this;exact this.symm
      rw[e];exact vp o
     rw[j,this]
    simp only[go_sem,h0,H,I];cases N:decide ((b.toNat:Int)<128) with
    |true=>
     have:=bad (.inl (by have:=Gk N;omega));rw[this];simp only[go_sem]
    |false=>
     have U:=Ge N;simp only[go_sem,h0,H,I];refine bL (fun B=>?_) (fun B=>?_)
     ·have:=bad (.inr (by have:=Gk B;omega));rw[this];simp only[go_sem]
     ·have W:=Ge B;rw[Gu (by omega)] at o;simp only[go_sem,h0,u,E,P,H,I,wb,w1,w2,w3];refine⟨i+1,by omega,by omega,by rw[Ym h (by omega)],_,rfl,o,by omega,?_⟩;rw[Int.pow_succ];omega
   ·have h:i=4:=by have:=Ge h;omega
    subst h;have J:fb ((b0.toNat:Int)-240) (t.take (4-1))=some v:=J;rw[J] at j;simp only at j;simp only[go_sem,u,P];cases O:decide (v<65536) with
    |true=>
     rw[GE (.inl (Gk O))] at j;rw[j];simp only[go_sem]
    |false=>
    cases q:decide (1114111<v) with
    |true=>
     rw[GE (.inr (.inl (Gk q)))] at j;rw[j];simp only[go_sem,q,u]
    |false=>
    have X:=Ge O;have Y:=Ge q;cases y:decide (55296<=v) with
    |false=>
     rw[Gu (by have:=Ge y;omega)] at j;rw[j];simp only[go_sem,q,y,u,E]
    |true=>
    cases D:decide (v<57344) with
    |true=>
     rw[GE (.inr (.inr ⟨Gk y,Gk D⟩))] at j;rw[j];simp only[go_sem,q,y,D,u]
    |false=>
     rw[Gu (by have:=Ge D;omega)] at j;rw[j];simp only[go_sem,q,y,D,u,E]
 have T:=Ge T;have w:eU b0.toNat=(0,0,(b0.toNat:Int)):=by rw[eU,Gu (by omega),Gu (by omega),Gu (by omega)]
 rw[w,GE (.inl rfl)] at j;rw[j];simp only[go_sem]
end Sg
namespace Sg
open _root_.Go _root_.Go.RowKit _root_.Go.Proofs
def plainFm:List (Nat×Nat):=[(191,211)]
def okPlain:fQ Tryz.prog (cxU plainFm) (bF 191 F191) 211 F191=true:=by kernel_rfl
def plain_walk (r n:Int) (w:World) (hgn:2<=w.heap.size) (hT:Lib.Utf8Tabs 0 1 w) :
  Calls Tryz.prog 211 #[.int .i32 r,.int .i64 n] w fun e w'=>e=.returned (.bool (dk r n))/\Below w.heap.size w w':=by
 have hk:K' (bF 191 F191) 191 [.int .i32 r,.int .i64 n]=some (.bool (dk r n)):=xk (by simp[py,bF]) r n
 obtain⟨m,hm⟩:=dO.1 hk
 have hc:=fR (P:=Tryz.prog) (cx:=cxU plainFm) (id:=191) (F:=F191) (by kernel_rfl) okPlain m 191 _ _ hm
 refine (hc.2 w (fun _=>False) #[.int .i32 r,.int .i64 n] (fun b hb=>hb.elim) hgn hT rfl (fun i hi=>by
  match i,hi with
  |0,_=>exact⟨_,rfl,.int _ _⟩
  |1,_=>exact⟨_,rfl,.int _ _⟩
  |k+2,hi=>exact absurd hi (by simp))).mono fun e w' ⟨v,he,hb,hr⟩=>?_
 have hr:=hr.data (fun b hb=>hb.elim)
 cases hr
 exact⟨he,hb⟩
def decCt (l:List (Nat×Nat)) (id:Nat) (h:(cxU l).fm id=210):∀args r,kh args=some r->gi Tryz.prog (cxU l) none id args r:=
 lX (by rw[h];exact⟨_,Tryz.func210,by kernel_rfl,by kernel_rfl⟩) fun s w hG=>by rw[h];exact dec_walk s w hG
def keyCt (l:List (Nat×Nat)) (id:Nat) (h:(cxU l).fm id=198):∀args r,jk args=some r->gi Tryz.prog (cxU l) none id args r:=
 mf (by rw[h];exact⟨_,Tryz.func198,by kernel_rfl,by kernel_rfl⟩) fun s w hgn hG=>by rw[h];exact key_walk s w hgn hG plain_walk
end Sg
namespace Sg
open _root_.Go (IntKind BinOp UnOp)
variable {Pg:PgT}
def aC (n:Nat):List UInt8:=if h:n<128 then [UInt8.ofNat n] else UInt8.ofNat (n % 128+128)::aC (n / 128)
termination_by n
decreasing_by omega
def lN {n:Nat} (h:n<128):aC n=[UInt8.ofNat n]:=by rw[aC,dif_pos h]
def lK {n:Nat} (h:128<=n):aC n=UInt8.ofNat (n % 128+128)::aC (n / 128):=by rw[aC,dif_neg (by omega)]
def tk:Nat->List UInt8->Option (Nat×List UInt8)
 |_,[]=>none
 |0,_::_=>none
 |k+1,b::s=>if b.toNat<128 then some (b.toNat,s) else (tk k s).bind fun q=>if q.1=0 then none else some (b.toNat-128+128*q.1,q.2)
def oe {n:Nat} (h:n<256):(UInt8.ofNat n).toNat=n:=by
 simp[UInt8.toNat_ofNat'];omega
def bH (n:Nat):1<=(aC n).length:=by
 rw[aC];split<;>simp
theorem pd:∀(k n:Nat) (r:List UInt8),(aC n).length<=k->tk k (aC n++r)=some (n,r)
 |0,n,r,h=>by have:=bH n;omega
 |k+1,n,r,h=>by
  by_cases j:n<128
  ·rw[lN j];simp only[List.cons_append,List.nil_append,tk,oe (show n<256 by omega),GE j]
  ·rw[lK (by omega)] at h ⊢;simp only[List.length_cons] at h;simp only[List.cons_append,tk,oe (show n % 128+128<256 by omega)];rw[Gu (by omega),pd k (n / 128) r (by omega)];simp only[Option.bind_some];rw[Gu (by omega)]
   congr 2
   omega
theorem jB:∀{k:Nat} {s:List UInt8} {n:Nat} {r:List UInt8},tk k s=some (n,r)->s=aC n++r/\(aC n).length<=k
 |_,[],n,r,h=>by simp[tk] at h
 |0,_::_,n,r,h=>by simp[tk] at h
 |k+1,b::s,n,r,h=>by
  simp only[tk] at h;split at h
  ·rename_i o;simp only[Ga,Gi] at h;obtain⟨rfl,rfl⟩:=h;rw[lN o];refine⟨?_,by simp⟩;simp
  ·rename_i o;cases j:tk k s with
   |none=>rw[j] at h;simp at h
   |some q=>
    rw[j] at h;simp only[Option.bind_some] at h;split at h
    ·cases h
    rename_i h0;obtain⟨m,z⟩:=q;simp only[Ga,Gi] at h h0;obtain⟨rfl,rfl⟩:=h;obtain⟨e,y⟩:=jB j;have w:=b.toNat_lt;have p:(b.toNat-128+128*m) % 128+128=b.toNat:=by omega
    have u:(b.toNat-128+128*m) / 128=m:=by omega
    rw[lK (by omega),p,u,e];exact⟨by simp,by simp only[List.length_cons];omega⟩
def zy {k:Nat} {s:List UInt8} {n:Nat} {r:List UInt8}:tk k s=some (n,r)↔s=aC n++r/\(aC n).length<=k:=
 ⟨jB,fun⟨e,h⟩=>by rw[e];exact pd k n r h⟩
theorem o9:∀(k n:Nat),(aC n).length<=k+1↔n<128 ^ (k+1)
 |0,n=>by
  by_cases j:n<128
  ·rw[lN j];simpa using j
  ·rw[lK (by omega)];have:=bH (n / 128);simp only[List.length_cons];constructor
   ·intro h;omega
   ·intro h;simp at h;omega
 |k+1,n=>by
  by_cases j:n<128
  ·rw[lN j];simp only[List.length_singleton];refine⟨fun _=>?_,fun _=>by omega⟩;have:128 ^ 1<=128 ^ (k+1+1):=Nat.pow_le_pow_right (by omega) (by omega);omega
  ·rw[lK (by omega)];simp only[List.length_cons];have:=o9 k (n / 128);rw[Nat.add_le_add_iff_right,this,Nat.pow_succ 128 (k+1),Nat.div_lt_iff_lt_mul (by omega)]
def YG {n:Nat}:(aC n).length<=9↔n<2 ^ 63:=by
 have e:(128:Nat) ^ (8+1)=2 ^ 63:=by decide
 rw[o9 8 n,e]
def Dw {s:List UInt8} {n:Nat} {r:List UInt8} (h:tk 9 s=some (n,r)):n<2 ^ 63:=YG.1 (jB h).2
def Yk (t:List UInt8):List UInt8:=aC t.length++t
def Yp (b:Bool):List UInt8:=[if b then 1 else 0]
def bS (s:List UInt8):Option (List UInt8×List UInt8):=(tk 9 s).bind fun q=>if q.1<=q.2.length then some (q.2.take q.1,q.2.drop q.1) else none
def dC:List UInt8->Option (Bool×List UInt8)
 |[]=>none
 |b::s=>if b.toNat<=1 then some (decide (b.toNat=1),s) else none
def CG {s t r:List UInt8}:bS s=some (t,r)↔s=Yk t++r/\t.length<2 ^ 63:=by
 unfold bS Yk;constructor
 ·intro h;cases j:tk 9 s with
  |none=>rw[j] at h;cases h
  |some q=>
   obtain⟨n,u⟩:=q;rw[j] at h;simp only[Option.bind_some] at h;split at h
   ·rename_i p;simp only[Ga,Gi] at h;obtain⟨rfl,rfl⟩:=h;have o:(u.take n).length=n:=by simp;omega
    refine⟨?_,by rw[o];exact Dw j⟩;rw[o,(jB j).1,Gr,GZ]
   ·cases h
 ·rintro⟨rfl,h⟩;rw[Gr,pd 9 _ _ (YG.2 h)];simp
def NX {s r:List UInt8} {b:Bool}:dC s=some (b,r)↔s=Yp b++r:=by
 cases s with
 |nil=>simp[dC,Yp]
 |cons x s=>
  simp only[dC,Yp,List.cons_append,List.nil_append,List.cons.injEq];constructor
  ·intro h;split at h
   ·rename_i j;simp only[Ga,Gi] at h;obtain⟨rfl,rfl⟩:=h;refine⟨?_,rfl⟩;apply UInt8.toNat_inj.1;by_cases h1:x.toNat=1
    ·simp[h1]
    ·have:x.toNat=0:=by omega
     simp[this]
   ·cases h
  ·rintro⟨rfl,rfl⟩;cases b<;>simp
def val:List UInt8->Nat
 |[]=>0
 |b::l=>b.toNat % 128+128*val l
def NY:∀n,val (aC n)=n:=by
 intro n
 induction n using Nat.strongRecOn with
 |_ n j=>
  by_cases h:n<128
  ·rw[lN h];simp only[val,oe (show n<256 by omega)];omega
  ·rw[lK (by omega)];simp only[val,oe (show n % 128+128<256 by omega),j _ (show n / 128<n by omega)];omega
theorem zz:∀l:List UInt8,val l<128 ^ l.length
 |[]=>by simp[val]
 |b::l=>by
  have:=zz l;simp only[val,List.length_cons,Nat.pow_succ];omega
def OE:∀n,∃l c,aC n=l++[c]/\(∀b∈l,128<=b.toNat)/\c.toNat<128:=by
 intro n
 induction n using Nat.strongRecOn with
 |_ n o=>
  by_cases h:n<128
  ·exact⟨[],UInt8.ofNat n,lN h,fun b hb=>by simp at hb,by rw[oe (by omega)];exact h⟩
  ·obtain⟨l,c,e,h1,j⟩:=o _ (show n / 128<n by omega);refine⟨UInt8.ofNat (n % 128+128)::l,c,by rw[lK (by omega),e];rfl,fun b hb=>?_,j⟩;rcases GN.1 hb with rfl|hb
   ·rw[oe (by omega)];omega
   ·exact h1 b hb
theorem Dn:∀{l p:List UInt8} {c j:UInt8} {r o:List UInt8},l++c::r=p++j::o->(∀b∈l,128<=b.toNat)->(∀b∈p,128<=b.toNat)->c.toNat<128->j.toNat<128->l=p/\c=j/\r=o
 |[],[],c,j,r,o,h,_,_,_,_=>by simp at h;exact⟨rfl,h.1,h.2⟩
 |[],b'::p,c,j,r,o,h,_,h2,h3,_=>by
  simp at h;have:=h2 b' (by simp);rw[<-h.1] at this;omega
 |b::l,[],c,j,r,o,h,h1,_,_,h4=>by
  simp at h;have:=h1 b (by simp);rw[h.1] at this;omega
 |b::l,b'::p,c,j,r,o,h,h1,h2,h3,h4=>by
  simp at h;obtain⟨u,w,y⟩:=Dn h.2 (fun x q=>h1 x (by simp[q])) (fun x q=>h2 x (by simp[q])) h3 h4;exact⟨by rw[h.1,u],w,y⟩
def oC {k:Nat} {l:List UInt8} {c:UInt8} {r:List UInt8} (hl:∀b∈l,128<=b.toNat) (hc:c.toNat<128) :
  tk k (l++c::r)=if l.length+1<=k/\aC (val (l++[c]))=l++[c] then some (val (l++[c]),r) else none:=by
 split
 ·rename_i h
  rw[zy,h.2]
  exact⟨by simp,by simp;omega⟩
 ·rename_i h
  cases hq:tk k (l++c::r) with
  |none=>rfl
  |some q=>
   exfalso
   apply h
   obtain⟨m,r'⟩:=q
   obtain⟨e,cK⟩:=jB hq
   obtain⟨l',c',p1,p2,p3⟩:=OE m
   rw[p1,Gr] at e
   obtain⟨rfl,rfl,-⟩:=Dn e hl p2 hc p3
   rw[p1] at cK
   rw[<-p1,NY]
   exact⟨by simpa using cK,rfl⟩
theorem nb:∀{k:Nat} {s:List UInt8},(∀b∈s.take k,128<=b.toNat)->tk k s=none
 |_,[],_=>by simp[tk]
 |0,_::_,_=>by simp[tk]
 |k+1,b::s,h=>by
  have h1:=h b (by simp);simp only[tk];rw[Gu (by omega),nb (fun x hx=>h x (by simp[hx]))]
  rfl
@[go_sem] def Yi (l:List Int):V:=.slice 1 (l.map fun a=>[iz a])
def wm:=HpZ 62 F62
def yz (h:wm Pg) (l:List Int) (n:Int) (u:l.length<2 ^ 60):K' Pg 62 [Yi l,iz n]=some (.bool (decide (n∈l))):=by
 refine aA h rfl ?_;simp only[go_sem];unfold l62_0;refine bE (fun (i:Nat) S=>i<=l.length/\S.ρ 0=Yi l/\S.ρ 1=iz n/\S.ρ 5=iz i/\n∉l.take i) (fun i=>l.length-i) 0 ?_ ?_
 ·simp[go_sem]
 ·intro i S ⟨hi,h0,h1,o,p⟩;simp only[go_sem,h0,o];refine bL (fun h=>?_) (fun h=>?_)
  ·have h:=Yh h;obtain⟨x,q,w⟩:=bO h;simp only[go_sem,h0,h1,o,q];refine bL (fun j=>?_) (fun j=>?_)
   ·have j:x=n:=Gk j;have:n∈l:=j▸List.mem_of_getElem? q;simp only[go_sem,this]
   ·have j:x≠n:=Ge j;simp only[go_sem,h0,h1,o];refine⟨i+1,by omega,by omega,by rw[Ym h u],?_⟩;rw[YH q];simp;exact⟨p,fun e=>j e.symm⟩
  ·have h:=Yr hi h;rw[oc h] at p;simp only[go_sem,p]
def Ay:=HpZ 70 F70
def Ca (h:Ay Pg) (a b:List Int) (D:a.length<2 ^ 60):K' Pg 70 [Yi a,Yi b]=some (.bool (decide (a=b))):=by
 refine aA h rfl ?_;simp only[go_sem];refine bL (fun j=>?_) (fun j=>?_)
 ·have j:¬a.length=b.length:=by intro e;simp[e] at j
  have:a≠b:=fun e=>j (by rw[e]);simp only[go_sem,this]
 ·have j:a.length=b.length:=by simp at j;omega
  simp only[go_sem];unfold l70_0;refine bE (fun (i:Nat) S=>i<=a.length/\S.ρ 0=Yi a/\S.ρ 1=Yi b/\S.ρ 5=iz i/\a.take i=b.take i) (fun i=>a.length-i) 0 ?_ ?_
  ·simp[go_sem]
  ·intro i S ⟨hi,h0,h1,p,u⟩;simp only[go_sem,h0,p];refine bL (fun h=>?_) (fun h=>?_)
   ·have h:=Yh h;obtain⟨x,w,E⟩:=bO h;obtain⟨y,o,z⟩:=bO (l:=b) (i:=i) (by omega);simp only[go_sem,h0,h1,p,w,o];refine bL (fun j=>?_) (fun j=>?_)
    ·have q:x≠y:=by simpa using j
     have:a≠b:=fun e=>q (by subst e;rw[w] at o;simpa using o);simp only[go_sem,this]
    ·have B:x=y:=by simpa using j
     simp only[go_sem,h0,h1,p];exact⟨i+1,by omega,by omega,by rw[Ym h D],by rw[YH w,YH o,u,B]⟩
   ·have h:=Yr hi h;rw[oc h,oc (h.trans j)] at u;simp only[go_sem,u]
def kO:List Int->Int->Nat->Int
 |[],_,_=>-1
 |a::l,n,i=>if n=a then i else kO l n (i+1)
theorem CL:∀{l:List Int} {n:Int} {i:Nat},decide (0<=kO l n i)=decide (n∈l)
 |[],n,i=>by simp[kO]
 |a::l,n,i=>by
  simp only[kO];split
  ·rename_i h;simp[h]
  ·rename_i h;rw[CL];simp[h]
def Az:=HpZ 75 F75
def Md (h:Az Pg) (l:List Int) (n:Int) (w:l.length<2 ^ 60):K' Pg 75 [Yi l,iz n]=some (iz (kO l n 0)):=by
 refine aA h rfl ?_;simp only[go_sem];unfold l75_0;refine bE (fun (i:Nat) S=>i<=l.length/\S.ρ 0=Yi l/\S.ρ 1=iz n/\S.ρ 7=iz l.length/\S.ρ 8=iz i/\kO (l.drop i) n i=kO l n 0) (fun i=>l.length-i) 0 ?_ ?_
 ·simp[go_sem]
 ·intro i S ⟨hi,h0,h1,q,p,o⟩;simp only[go_sem,q,p];refine bL (fun h=>?_) (fun h=>?_)
  ·have h:=Yh h;obtain⟨x,y,u⟩:=bO h;rw[u] at o;simp only[go_sem,h0,h1,p,y];refine bL (fun j=>?_) (fun j=>?_)
   ·have j:n=x:=Gk j;simp only[kO,j,GS] at o;simp only[go_sem,<-o,j]
   ·have j:¬n=x:=Ge j;simp only[kO,j,GO] at o;simp only[go_sem,h0,h1,q,p];exact⟨i+1,by omega,by omega,by rw[Ym h w],o⟩
  ·have h:=Yr hi h;subst h;simp only[GQ,kO] at o;simp only[go_sem,<-o]
def uv:=HpC 65 F65 Az
def uY (h:uv Pg) (l:List Int) (n:Int) (p:l.length<2 ^ 60):K' Pg 65 [Yi l,iz n]=some (.bool (decide (n∈l))):=by
 obtain⟨h,o⟩:=h;refine aA h rfl ?_;have j:=Md o l n p;simp only[Yi] at j;simp only[go_sem,j,CL]
def kN:List Int->(Int->Bool)->Nat->Int
 |[],_,_=>-1
 |a::l,p,i=>if p a then i else kN l p (i+1)
theorem CK:∀{l:List Int} {p:Int->Bool} {i:Nat},decide (0<=kN l p i)=l.any p
 |[],n,i=>by simp[kN]
 |a::l,n,i=>by
  simp only[kN];split
  ·rename_i h;simp[h]
  ·rename_i h;rw[CK];simp[h]
def AB:=HpZ 76 F76
def Me (h:AB Pg) (l:List Int) (g:Nat) (aJ:List V) (p:Int->Bool) (E:l.length<2 ^ 60) (y:aJ.all V.datC=true) (D:∀x∈l,K' Pg g (iz x::aJ)=some (.bool (p x))) :
  K' Pg 76 [Yi l,.func g aJ]=some (iz (kN l p 0)):=by
 refine aA h rfl ?_
 simp only[go_sem]
 unfold l76_0
 refine bE (fun (i:Nat) S=>i<=l.length/\S.ρ 0=Yi l/\S.ρ 1=.func g aJ/\S.ρ 7=iz l.length/\S.ρ 8=iz i/\kN (l.drop i) p i=kN l p 0) (fun i=>l.length-i) 0 ?_ ?_
 ·simp[go_sem]
 ·intro i S ⟨hi,h0,h1,w,o,j⟩
  simp only[go_sem,w,o]
  refine bL (fun h=>?_) (fun h=>?_)
  ·have h:=Yh h
   obtain⟨x,z,B⟩:=bO h
   rw[B] at j
   have u:=D x (List.mem_of_getElem? z)
   simp only[go_sem,h0,h1,o,z,u]
   refine bL (fun q=>?_) (fun q=>?_)
   ·simp only[kN,q,GS] at j
    simp only[go_sem,<-j]
   ·simp only[kN,q,Gv,GO] at j
    simp only[go_sem,h0,h1,w,o]
    exact⟨i+1,by omega,by omega,by rw[Ym h E],j⟩
  ·have h:=Yr hi h
   subst h
   simp only[GQ,kN] at j
   simp only[go_sem,<-j]
def uw:=HpC 67 F67 AB
def yA (h:uw Pg) (l:List Int) (g:Nat) (aJ:List V) (p:Int->Bool) (w:l.length<2 ^ 60) (j:aJ.all V.datC=true) (u:∀x∈l,K' Pg g (iz x::aJ)=some (.bool (p x))) :
  K' Pg 67 [Yi l,.func g aJ]=some (.bool (l.any p)):=by
 obtain⟨h,q⟩:=h
 refine aA h rfl ?_
 have o:=Me q l g aJ p w j u
 simp only[Yi] at o
 simp only[go_sem,o,CK]
def cP (l:List Int):Prop:=l.length<=8/\(∀m∈l,1<=m/\m<=255)/\l.Nodup
instance (l:List Int):Decidable (cP l):=inferInstanceAs (Decidable (_/\_/\_))
theorem vv {l:List Int} {i:Nat} {x:Int} (j:l[i]?=some x) (h:¬(1<=x/\x<=255)\/x∈l.take i):¬cP l:=by
 rintro⟨-,q,o⟩;rcases h with h|h
 ·exact h (q x (List.mem_of_getElem? j))
 ·have hi:i<l.length:=by
   rcases GD i l.length with h|h
   ·exact h
   ·rw[List.getElem?_eq_none h] at j;simp at j
  obtain⟨y,p,u⟩:=bO hi;have:x=y:=by rw[j] at p;simpa using p
  subst this;rw[<-GZ i l,u,oF] at o;exact o.2.2 x h x (ni ..) rfl
def CS {l:List Int} {i:Nat} {x:Int} (q:l[i]?=some x) (h:(∀m∈l.take i,1<=m/\m<=255)/\(l.take i).Nodup) (h1:1<=x/\x<=255) (j:x∉l.take i) :
  (∀m∈l.take (i+1),1<=m/\m<=255)/\(l.take (i+1)).Nodup:=by
 rw[YH q]
 refine⟨fun m hm=>?_,?_⟩
 ·rcases GV.1 hm with hm|hm
  ·exact h.1 m hm
  ·have:m=x:=by simpa using hm
   rw[this];exact h1
 ·rw[oF]
  refine⟨h.2,by simp,fun a o b p e=>?_⟩
  have:b=x:=by simpa using p
  rw[<-this,<-e] at j
  exact j o
def cW (b:UInt8):List V:=[.int .u8 b.toNat]
def My (l:List UInt8):bT (l.map cW)=some l:=uQ l
def Po {n:Nat} (h:n<256):cW (UInt8.ofNat n)=[.int .u8 n]:=by simp[cW,oe h]
def DW {n:Nat}:IntKind.u8.wrap (n:Int)=((n % 256:Nat):Int):=by simp[IntKind.wrap,IntKind.bits,IntKind.signed]
def OL (n:Nat):IntKind.u8.wrap ((BitVec.ofInt 8 (IntKind.u8.wrap (n:Int)) ||| BitVec.ofInt 8 128).toNat:Int)=((n % 128+128:Nat):Int):=by
 have key:∀x:Fin 256,IntKind.u8.wrap ((BitVec.ofInt 8 ((x.1:Nat):Int) ||| BitVec.ofInt 8 128).toNat:Int)=((x.1 % 128+128:Nat):Int):=by decide
 rw[DW (n:=n)];have:=key ⟨n % 256,by omega⟩;simp only at this;rw[this];omega
def Mz (l:List UInt8) (n:Nat):bT (l.map cW++[[.int .u8 (n:Int)]])=some (l++[UInt8.ofNat n]):=by
 induction l with
 |nil=>simp[bT]
 |cons b l j=>
  show bT (cW b::(l.map cW++_))=_
  simp only[cW,bT,j];simp
def DG (n:Nat):((n:Int).fdiv (2 ^ 7))=((n / 128:Nat):Int):=by
 have:((2:Int) ^ 7)=((128:Nat):Int):=rfl;rw[this];exact (Int.ofNat_fdiv n 128).symm
def iV:=HpZ 456 F456
def nR (h:iV Pg) (n:Nat) (E:n<2 ^ 63):K' Pg 456 [iz n]=some (.tuple [.str (aC n),iz 0]):=by
 refine aA h rfl ?_;have D:decide ((n:Int)<0)=false:=Gq (by omega);simp only[F456,c456,go_sem,D];unfold l456_0;refine bE (fun (m:Nat) S=>∃j:List UInt8,j++aC m=aC n/\S.ρ 0=iz m/\S.ρ 4=.own 4 1 j.length/\S.A 4=some (1,j.map cW,.live)) (fun m=>m) n ?_ ?_
 ·exact⟨[],rfl,rfl,rfl,rfl⟩
 ·intro m S ⟨j,q,z,B,a4⟩;have y:j.length+1<=9:=by
   have h1:=YG.2 E;have H:=bH m;rw[<-q,Gb] at h1;omega
  have p:j.length+1<=dj:=by unfold dj;omega
  cases u:decide ((128:Int)<=m) with
  |true=>
   have o:128<=m:=by have:=Gk u;omega
   rw[lK o] at q;have I:((m:Int).fdiv (2 ^ min (Int.toNat 7) 64))=((m / 128:Nat):Int):=DG m;have w:mi .shr (iz m) (.int .u64 7)=some (iz ((m / 128:Nat):Int)):=by simp only[mi];rw[Gu (by omega)];exact fp (fun x=>some (V.int .i64 x)) (DG m)
   simp only[go_sem,z,B,a4,u,Gf,p,w];refine⟨m / 128,by omega,j++[UInt8.ofNat (m % 128+128)],by rw[<-q];simp,rfl,by rw[Gb];rfl,?_⟩;rw[GJ,GB,Po (by omega),<-OL];rfl
  |false=>
   have o:m<128:=by have:=Ge u;omega
   rw[lN o] at q;have hw:IntKind.u8.wrap (m:Int)=(m:Int):=by rw[DW];omega
   simp only[go_sem,z,B,a4,u,hw,Gf,p,Mz,q]
def lk:=HpC 484 F484 iV
def xY (h:lk Pg) (t:List UInt8) (ht:t.length<2 ^ 61):K' Pg 484 [.str t]=some (.str (Yk t)):=by
 obtain⟨h,j⟩:=h;have k:=nR j t.length (by omega);have o:(aC t.length).length+t.length<=4611686018427387904:=by have:=YG.2 (show t.length<2 ^ 63 by omega);omega
 refine aA h rfl ?_;simp only[F484,c484,go_sem,k,o,Yk]
def rg:=HpZ 485 F485
def xZ (h:rg Pg) (b:Bool):K' Pg 485 [.bool b]=some (.str (Yp b)):=by
 refine aA h rfl ?_;cases b<;>simp only[F485,c485,go_sem,Yp]<;>rfl
def fh (n:Nat):List Int:=if h:n<128 then [(n:Int)] else ((n % 128:Nat):Int)::fh (n / 128)
termination_by n
decreasing_by omega
def zk {n:Nat} (h:n<128):fh n=[(n:Int)]:=by rw[fh,dif_pos h]
def zj {n:Nat} (h:128<=n):fh n=((n % 128:Nat):Int)::fh (n / 128):=by rw[fh,dif_neg (by omega)]
def yT:∀n,(fh n).length=(aC n).length:=by
 intro n
 induction n using Nat.strongRecOn with
 |_ n j=>
  by_cases h:n<128
  ·rw[zk h,lN h];rfl
  ·rw[zj (by omega),lK (by omega),List.length_cons,List.length_cons,j _ (by omega)]
def Cu (n:Nat):fh n=((n % 128:Nat):Int)::(if n / 128=0 then [] else fh (n / 128)):=by
 by_cases h:n<128
 ·rw[zk h,GE (by omega),Nat.mod_eq_of_lt h]
 ·rw[zj (by omega),Gu (by omega)]
theorem Dl (n:Nat):(n:Int).tmod 128=((n % 128:Nat):Int):=rfl
theorem Oo (n:Nat):(n:Int).tdiv 128=((n / 128:Nat):Int):=rfl
def rl:=HpZ 502 F502
def yh (h:rl Pg) (n:Nat) (w:n<2 ^ 63):K' Pg 502 [iz n]=some (Yi (fh n)):=by
 refine aA h rfl ?_;have B:∀m:Nat,m<2 ^ 63->IntKind.i64.wrap ((m:Int).tdiv 128)=((m / 128:Nat):Int):=fun m hm=>by
  rw[Oo,bI (by omega) (by omega)]
 have u:=YG.2 w;rw[<-yT] at u;simp only[F502,c502,go_sem,B n w,Dl];unfold l502_0;refine bE (fun (m:Nat) S=>m<2 ^ 63/\∃j:List Int,j++(if m=0 then [] else fh m)=fh n/\S.ρ 0=iz m/\S.ρ 3=.own 6 1 j.length/\S.A 6=some (1,j.map (fun a=>[iz a]),.live)) (fun m=>m) (n / 128) ?_ ?_
 ·exact⟨by omega,[((n % 128:Nat):Int)],(Cu n).symm,rfl,rfl,rfl⟩
 ·intro m S ⟨hm,j,p,y,z,a6⟩;cases q:decide ((0:Int)<m) with
  |true=>
   have h0:0<m:=by have:=Gk q;omega
   rw[Gu (by omega),Cu] at p;have o:j.length+1<=dj:=by
    have:=fp List.length p;rw[Gb,List.length_cons] at this;unfold dj;omega
   simp only[go_sem,y,z,a6,q,Dl,B m hm,Gf,o];refine⟨m / 128,by omega,by omega,j++[((m % 128:Nat):Int)],by rw[<-p];simp,rfl,by rw[Gb];rfl,by rw[GJ];rfl⟩
  |false=>
   have h0:m=0:=by have:=Ge q;omega
   subst h0;rw[GE rfl,GG] at p;simp only[go_sem,y,z,a6,p,Gf]
def MW:∀(n:Nat) (i:Nat) (d:Int),(fh n)[i]?=some d->(aC n)[i]?=some (UInt8.ofNat (d.toNat+if i+1<(fh n).length then 128 else 0))/\0<=d/\d<128:=by
 intro n
 induction n using Nat.strongRecOn with
 |_ n u=>
  intro i d j;by_cases h:n<128
  ·rw[zk h] at j ⊢;rw[lN h];cases i with
   |zero=>simp at j;subst j;simp;omega
   |succ i=>simp at j
  ·have:=bH (n / 128);rw[zj (by omega)] at j ⊢;rw[lK (by omega)];have w:=yT (n / 128);cases i with
   |zero=>
    simp at j;subst j;simp only[List.getElem?_cons_zero,List.length_cons];rw[GE (by omega)];exact⟨by congr 2,by omega,by omega⟩
   |succ i=>
    simp only[List.getElem?_cons_succ] at j ⊢;obtain⟨o,p,q⟩:=u _ (by omega) i d j;rw[o];refine⟨?_,p,q⟩;simp only[List.length_cons,Nat.add_lt_add_iff_right]
def gI:=HpC 487 F487 rl
def lH (h:gI Pg) (n:Nat) (O:n<2 ^ 63):K' Pg 487 [iz n]=some (.tuple [.str (aC n),iz 0]):=by
 obtain⟨h,y⟩:=h;have u:=yh y n O;simp only[go_sem] at u;refine aA h rfl ?_;have P:decide ((n:Int)<0)=false:=Gq (by omega);have T:=yT n;have Q:=YG.2 O;simp only[F487,c487,go_sem,P,u];unfold l487_0;refine bE (fun (i:Nat) S=>i<=(fh n).length/\S.ρ 4=.slice 1 ((fh n).map fun a=>[iz a])/\S.ρ 5=.str ((aC n).take i)/\S.ρ 6=iz i) (fun i=>(fh n).length-i) 0 ?_ ?_
 ·exact⟨Gy _,rfl,rfl,rfl⟩
 ·intro i S ⟨hi,M,B,N⟩;cases w:decide ((i:Int)<((fh n).length:Int)) with
  |false=>
   have I:i=(aC n).length:=by have:=Ge w;omega
   rw[I,Gw] at B;simp only[go_sem,M,B,N,w,Gf]
  |true=>
   have J:=Yh w;obtain⟨d,H,-⟩:=bO J;obtain⟨R,U,W⟩:=MW n i d H;have j:(aC n).take (i+1)=(aC n).take i++[UInt8.ofNat (d.toNat+if i+1<(fh n).length then 128 else 0)]:=by rw[GW,R];rfl
   have p:=inc64q (i:=i) (by omega)
   have o:IntKind.i64.wrap (((fh n).length:Int)-1)=((fh n).length:Int)-1:=bI (by omega) (by omega);have q:((aC n).take i).length+1<=4611686018427387904:=by rw[GP];omega
   cases z:decide ((i:Int)<((fh n).length:Int)-1) with
   |true=>
    have D:i+1<(fh n).length:=by have:=Gk z;omega
    rw[GE D] at j;have hw:IntKind.i64.wrap (d+128)=d+128:=bI (by omega) (by omega);have E:IntKind.u8.wrap (d+128)=d+128:=by simp[IntKind.wrap,IntKind.bits,IntKind.signed];omega
    have L:(d+128).toNat=d.toNat+128:=by omega
    simp only[go_sem,M,B,N,w,z,H,p,o,hw,E,L,q,Gf,List.length_cons,List.length_nil];exact⟨i+1,by omega,by omega,by rw[j],rfl⟩
   |false=>
    have D:¬i+1<(fh n).length:=by have:=Ge z;omega
    rw[Gu D,Nat.add_zero] at j;have E:IntKind.u8.wrap d=d:=by simp[IntKind.wrap,IntKind.bits,IntKind.signed];omega
    simp only[go_sem,M,B,N,w,z,H,p,o,E,q,Gf,List.length_cons,List.length_nil];exact⟨i+1,by omega,by omega,by rw[j];rfl,rfl⟩
def eG (e:Int):Option (Nat×List UInt8)->V
 |some (n,r)=>.tuple [iz n,.str r,iz 0]
 |none=>.tuple [iz 0,.str [],iz e]
def iF (e:Int):Option (List UInt8×List UInt8)->V
 |some (n,r)=>.tuple [.str n,.str r,iz 0]
 |none=>.tuple [.str [],.str [],iz e]
def jx (e:Int):Option (Bool×List UInt8)->V
 |some (n,r)=>.tuple [.bool n,.str r,iz 0]
 |none=>.tuple [.bool false,.str [],iz e]
def dz (b:UInt8):IntKind.u8.wrap ((BitVec.ofInt 8 (b.toNat:Int) &&& BitVec.ofInt 8 127).toNat:Int)=((b.toNat % 128:Nat):Int):=by
 have key:∀x:Fin 256,IntKind.u8.wrap ((BitVec.ofInt 8 ((x.1:Nat):Int) &&& BitVec.ofInt 8 127).toNat:Int)=((x.1 % 128:Nat):Int):=by decide
 exact key ⟨b.toNat,b.toNat_lt⟩
def Ol (b:UInt8):nL .and .u8 (b.toNat:Int) 127=some (.int .u8 ((b.toNat % 128:Nat):Int)):=fp (fun x=>some (V.int .u8 x)) (dz b)
def uf {bN d i:Nat} (ha:bN<128 ^ i) (hd:d<128) (hi:i<=8) :
  IntKind.i64.wrap ((BitVec.ofInt 64 (bN:Int) ||| BitVec.ofInt 64 (IntKind.i64.wrap ((d:Int)*2 ^ min (7*i) 64))).toNat:Int)=((bN+128 ^ i*d:Nat):Int):=by
 have hp:(128:Nat) ^ i=2 ^ (7*i):=by rw[Nat.pow_mul]
 have mX:(2:Nat) ^ (7*i)<=2 ^ 56:=Nat.pow_le_pow_right (by omega) (by omega)
 have zT:2 ^ (7*i)*d<2 ^ 63:=by
  have:2 ^ (7*i)*d<=2 ^ 56*127:=Nat.mul_le_mul mX (by omega);omega
 rw[hp] at ha ⊢
 have e1:((d:Int)*2 ^ min (7*i) 64)=((2 ^ (7*i)*d:Nat):Int):=by
  rw[Nat.min_eq_left (by omega)];simp[Int.mul_comm]
 have e3:IntKind.i64.wrap ((2 ^ (7*i)*d:Nat):Int)=((2 ^ (7*i)*d:Nat):Int):=bI (by omega) (by omega)
 rw[e1,e3]
 have e2:∀m:Nat,m<2 ^ 63->BitVec.ofInt 64 (m:Int)=BitVec.ofNat 64 m:=fun m hm=>by simp
 rw[e2 _ (by omega),e2 _ zT,BitVec.toNat_or,BitVec.toNat_ofNat,BitVec.toNat_ofNat,Nat.mod_eq_of_lt (by omega),Nat.mod_eq_of_lt (by omega),Nat.or_comm,<-Nat.two_pow_add_eq_or_of_lt ha,Nat.add_comm]
 have PV:bN+2 ^ (7*i)*d<2 ^ 63:=by
  have h1:2 ^ (7*i)*d+2 ^ (7*i)<=2 ^ (7*i)*128:=by
   have:=Nat.mul_le_mul (Gt (2 ^ (7*i))) (show d+1<=128 by omega);rw[Nat.mul_add] at this;omega
  omega
 rw[bI (by omega) (by omega)]
def Pl {bN d i:Nat} (j:bN<128 ^ i) (o:d<128) (hi:i<=8):nL .or .i64 (bN:Int) (IntKind.i64.wrap ((d:Int)*2 ^ min (7*i) 64))=some (iz ((bN+128 ^ i*d:Nat):Int)):=
 fp (fun x=>some (V.int .i64 x)) (uf j o hi)
def ro:=HpZ 505 F505
def yk (h:ro Pg) (s:List UInt8) (D:s.length<2 ^ 62):∃e:Int,e≠0/\K' Pg 505 [.str s]=some (iz e):=by
 have key:K' Pg 505 [.str s]=some (iz (if s.any (fun b=>decide (b.toNat<128)) then 3 else 2)):=by
  refine aA h rfl ?_;simp only[F505,c505,go_sem];unfold l505_0;refine bE (fun (i:Nat) S=>i<=s.length/\S.ρ 0=.str s/\S.ρ 5=iz s.length/\S.ρ 6=iz i/\∀b∈s.take i,¬b.toNat<128) (fun i=>s.length-i) 0 ?_ ?_
  ·exact⟨Gy _,rfl,rfl,rfl,fun b o=>by simp at o⟩
  ·intro i S ⟨hi,B,y,z,j⟩;cases p:decide ((i:Int)<(s.length:Int)) with
   |false=>
    have:i=s.length:=by have:=Ge p;omega
    subst this;rw[Gw] at j;have:s.any (fun b=>decide (b.toNat<128))=false:=by
     rw[List.any_eq_false];intro b o;simpa using j b o
    simp only[go_sem,y,z,p,this]
   |true=>
    have w:=Yh p;obtain⟨b,o,-⟩:=bO w;have q:=inc64q (i:=i) (by omega)
    cases u:decide ((b.toNat:Int)<128) with
    |true=>
     have:s.any (fun b=>decide (b.toNat<128))=true:=List.any_eq_true.2 ⟨b,List.mem_of_getElem? o,GC (by have:=Gk u;omega)⟩;simp only[go_sem,B,y,z,p,o,u,this]
    |false=>
     simp only[go_sem,B,y,z,p,o,u,q];refine⟨i+1,by omega,by omega,rfl,fun x hx=>?_⟩;rw[GW,o] at hx;rcases GV.1 hx with hx|hx
     ·exact j x hx
     ·have:x=b:=by simpa using hx
      subst this;have:=Ge u;omega
 refine⟨_,?_,key⟩;split<;>decide
def lW (i bN:Nat) (o:Option (Nat×List UInt8)):Option (Nat×List UInt8):=o.bind fun q=>if 0<i/\q.1=0 then none else some (bN+128 ^ i*q.1,q.2)
def OY (o:Option (Nat×List UInt8)):lW 0 0 o=o:=by cases o<;>simp[lW]
def MV {i bN k:Nat} {b:UInt8} {s:List UInt8} (o:128<=b.toNat):lW i bN (tk (k+1) (b::s))=lW (i+1) (bN+128 ^ i*(b.toNat % 128)) (tk k s):=by
 have j:=b.toNat_lt;have hm:b.toNat % 128=b.toNat-128:=by omega
 simp only[tk,Gu (show ¬b.toNat<128 by omega),hm];cases tk k s with
 |none=>rfl
 |some q=>
  obtain⟨n,r⟩:=q;simp only[Option.bind_some,lW];by_cases h0:n=0
  ·simp[h0]
  ·rw[Gu h0];simp only[Option.bind_some];rw[Gu (by omega),Gu (by omega)]
   congr 2
   rw[Nat.pow_succ,Nat.mul_add,Nat.mul_assoc];omega
def gy (el:Int):Nat->List UInt8->Int
 |_,[]=>2
 |i,b::s=>if 8<i then (if 128<=b.toNat\/0<b.toNat % 128 then el else 3) else if 128<=b.toNat then gy el (i+1) s else 3
theorem Du {el:Int} (j:el≠0):∀{i:Nat} {s:List UInt8},gy el i s≠0
 |_,[]=>by simp[gy]
 |i,b::s=>by
  simp only[gy];split
  ·split
   ·exact j
   ·decide
  ·split
   ·exact Du j
   ·decide
def jN:=HpC 491 F491 ro
def i4 (h:jN Pg) (s:List UInt8) (hs:s.length<2 ^ 62):∃e:Int,e≠0/\K' Pg 491 [.str s]=some (eG e (tk 9 s)):=by
 obtain⟨h,R⟩:=h;obtain⟨el,Z,J⟩:=yk R s hs;refine⟨gy el 0 s,Du Z,?_⟩;refine aA h rfl ?_;simp only[F491,c491,go_sem];have dz:=Ol;simp only[go_sem,Ga,V.int.injEq,true_and] at dz;unfold l491_0;refine bE (fun (i:Nat) S=>i<=s.length/\i<=9/\S.ρ 0=.str s/\S.ρ 9=iz s.length/\S.ρ 10=iz i/\∃bN:Nat,bN<128 ^ i/\S.ρ 5=iz bN/\tk 9 s=lW i bN (tk (9-i) (s.drop i))/\gy el 0 s=gy el i (s.drop i)) (fun i=>s.length-i) 0 ?_ ?_
 ·exact⟨Gy _,Gy _,rfl,rfl,rfl,0,by decide,rfl,(OY _).symm,rfl⟩
 ·intro i S ⟨hi,ab,P,L,q,bN,T,s5,p,o⟩;cases D:decide ((i:Int)<(s.length:Int)) with
  |false=>
   have:i=s.length:=by have:=Ge D;omega
   subst this;rw[GQ] at p o;have j:eG (gy el 0 s) (tk 9 s)=.tuple [iz 0,.str [],iz 2]:=by rw[p,o];cases 9-s.length<;>rfl
   simp only[go_sem,L,q,D,j]
  |true=>
   have U:=Yh D;obtain⟨b,M,hdr⟩:=bO U;rw[hdr] at p o;have z:=inc64q (i:=i) (by omega)
   have B:IntKind.i64.wrap (7*(i:Int))=((7*i:Nat):Int):=by rw[bI (by omega) (by omega)];omega
   have u:IntKind.i64.wrap ((b.toNat % 128:Nat):Int)=((b.toNat % 128:Nat):Int):=bI (by omega) (by omega);have aa:=b.toNat_lt;cases E:decide ((8:Int)<i) with
   |true=>
    have h9:i=9:=by have:=Gk E;omega
    have X:tk 9 s=none:=by rw[p,show 9-i=0 by omega];rfl
    have Y:gy el 0 s=if 128<=b.toNat\/0<b.toNat % 128 then el else 3:=by rw[o];simp only[gy];rw[GE (by omega)]
    cases c3:decide ((128:Int)<=(b.toNat:Int)) with
    |true=>
     have j:eG (gy el 0 s) (tk 9 s)=.tuple [iz 0,.str [],iz el]:=by rw[X,Y,GE (.inl (by have:=Gk c3;omega))];rfl
     simp only[go_sem,P,L,q,D,E,c3,M,dz,u,J,j]
    |false=>
    cases y:decide ((0:Int)<((b.toNat % 128:Nat):Int)) with
    |true=>
     have j:eG (gy el 0 s) (tk 9 s)=.tuple [iz 0,.str [],iz el]:=by rw[X,Y,GE (.inr (by have:=Gk y;omega))];rfl
     simp only[go_sem,P,L,q,D,E,c3,y,M,dz,u,J,j]
    |false=>
     have Q:decide (((b.toNat % 128:Nat):Int)=0)=true:=GC (by have:=Ge y;omega);have c6:decide ((0:Int)<(i:Int))=true:=GC (by omega);have j:eG (gy el 0 s) (tk 9 s)=.tuple [iz 0,.str [],iz 3]:=by rw[X,Y,Gu (by have:=Ge y;have:=Ge c3;omega)];rfl
     simp only[go_sem,P,L,q,D,E,c3,y,Q,c6,M,dz,u,j]
   |false=>
    have h8:i<=8:=by have:=Ge E;omega
    have H:=Pl (bN:=bN) (d:=b.toNat % 128) (i:=i) T (by omega) h8;simp only[go_sem,Ga,V.int.injEq,true_and] at H;have O:mi .shl (iz ((b.toNat % 128:Nat):Int)) (iz ((7*i:Nat):Int))=some (iz (IntKind.i64.wrap (((b.toNat % 128:Nat):Int)*2 ^ min (7*i) 64))):=by
     simp only[mi];rw[Gu (by omega)];rfl
    have N:bN+128 ^ i*(b.toNat % 128)<128 ^ (i+1):=by
     have:=Nat.mul_le_mul (Gt (128 ^ i)) (show b.toNat % 128+1<=128 by omega);rw[Nat.mul_add] at this;rw[Nat.pow_succ];omega
    cases c3:decide ((128:Int)<=(b.toNat:Int)) with
    |true=>
     have w:128<=b.toNat:=by have:=Gk c3;omega
     rw[show 9-i=(8-i)+1 by omega,MV w,show 8-i=9-(i+1) by omega] at p;simp only[gy] at o;rw[Gu (by omega),GE w] at o;simp only[go_sem,P,s5,L,q,D,E,c3,M,dz,u,B,O,H,z];exact⟨i+1,by omega,by omega,by omega,rfl,_,N,rfl,p,o⟩
    |false=>
     have w:b.toNat<128:=by have:=Ge c3;omega
     have W:b.toNat % 128=b.toNat:=by omega
     have I:i+1<=s.length:=U;have e0:tk (9-i) (b::s.drop (i+1))=some (b.toNat,s.drop (i+1)):=by
      rw[show 9-i=(8-i)+1 by omega];simp only[tk];rw[GE w]
     rw[e0] at p;simp only[gy] at o;rw[Gu (by omega),Gu (by omega)] at o;cases y:decide (((b.toNat % 128:Nat):Int)=0) with
     |true=>
      have h0:b.toNat=0:=by have:=Gk y;omega
      cases Q:decide ((0:Int)<(i:Int)) with
      |true=>
       have j:eG (gy el 0 s) (tk 9 s)=.tuple [iz 0,.str [],iz 3]:=by
        rw[p,o];simp only[lW,Option.bind_some];rw[GE ⟨by have:=Gk Q;omega,h0⟩];rfl
       simp only[go_sem,P,L,q,D,E,c3,y,Q,M,dz,u,j]
      |false=>
       have j:eG (gy el 0 s) (tk 9 s)=.tuple [iz ((bN+128 ^ i*(b.toNat % 128):Nat):Int),.str (s.drop (i+1)),iz 0]:=by
        rw[p];simp only[lW,Option.bind_some];rw[Gu (by have:=Ge Q;omega),W];rfl
       simp only[go_sem,P,s5,L,q,D,E,c3,y,Q,M,dz,u,B,O,H,z,I,Gw,j]
     |false=>
      have j:eG (gy el 0 s) (tk 9 s)=.tuple [iz ((bN+128 ^ i*(b.toNat % 128):Nat):Int),.str (s.drop (i+1)),iz 0]:=by
       rw[p];simp only[lW,Option.bind_some];rw[Gu (by have:=Ge y;omega),W];rfl
      simp only[go_sem,P,s5,L,q,D,E,c3,y,M,dz,u,B,O,H,z,I,Gw,j]
def nH:=HpC 506 F506 jN
def sA (h:nH Pg) (s:List UInt8) (y:s.length<2 ^ 62):∃e:Int,e≠0/\K' Pg 506 [.str s]=some (iF e (bS s)):=by
 obtain⟨h,j⟩:=h;obtain⟨e,u,k⟩:=i4 j s y;unfold bS;cases p:tk 9 s with
 |none=>
  rw[p] at k;have w:decide (e=0)=false:=Gq u;refine⟨e,u,aA h rfl ?_⟩;simp only[eG] at k;simp only[F506,c506,go_sem,k,w,Option.bind_none,iF]
 |some q=>
  obtain⟨n,r⟩:=q;rw[p] at k;simp only[eG] at k;simp only[Option.bind_some];have z:=Dw p;cases o:decide ((r.length:Int)<n) with
  |true=>
   refine⟨2,by decide,aA h rfl ?_⟩;have h1:¬n<=r.length:=by have:=Gk o;omega
   simp only[F506,c506,go_sem,k,o,Gu h1,iF]
  |false=>
   refine⟨2,by decide,aA h rfl ?_⟩;have h1:n<=r.length:=by have:=Ge o;omega
   simp only[F506,c506,go_sem,k,o,h1,iF,Gw]
def rp:=HpZ 507 F507
def yl (h:rp Pg) (s:List UInt8):∃e:Int,e≠0/\K' Pg 507 [.str s]=some (jx e (dC s)):=by
 cases s with
 |nil=>
  refine⟨2,by decide,aA h rfl ?_⟩;simp only[F507,c507,go_sem,dC,jx]
 |cons b s=>
  have h0:mz (.str (b::s)) (.int .i64 0)=some (.int .u8 b.toNat):=rfl;have u:decide (b::s=[])=false:=rfl;have q:decide ((b.toNat:Int)=1)=decide (b.toNat=1):=GU.2 (by omega);have o:1<=s.length+1:=by omega
  have p:List.take (s.length+1) (b::s)=b::s:=by simp
  refine⟨3,by decide,aA h rfl ?_⟩;cases j:decide ((1:Int)<b.toNat) with
  |true=>
   have h1:¬b.toNat<=1:=by have:=Gk j;omega
   simp only[F507,c507,go_sem,j,h0,dC,jx,Gu h1]
  |false=>
   have h1:b.toNat<=1:=by have:=Ge j;omega
   simp only[F507,c507,go_sem,j,h0,q,o,p,dC,jx,GE h1,List.length_cons,List.drop_succ_cons,List.drop_zero]
def lj:=HpC 470 F470 gI
def j3 (h:lj Pg) (s:List UInt8) (hs:s.length<2 ^ 62):∃e:Int,e≠0/\K' Pg 470 [.str s]=some (eG e (tk 9 s)):=by
 obtain⟨h,N⟩:=h;by_cases o:s.all fun b=>decide (128<=b.toNat)
 ·refine⟨2,by decide,aA h rfl ?_⟩;have W:eG 2 (tk 9 s)=.tuple [iz 0,.str [],iz 2]:=by
   rw[nb fun b y=>by
    rw[Gx] at o;simpa using o b (pm y)]
   rfl
  simp only[F470,c470,go_sem,W];unfold l470_0;refine bE (fun (i:Nat) S=>i<=s.length/\S.ρ 0=.str s/\S.ρ 5=iz i) (fun i=>s.length-i) 0 ?_ ?_
  ·exact⟨Gy _,rfl,rfl⟩
  ·intro i S ⟨hi,u,w⟩;cases B:decide ((i:Int)<(s.length:Int)) with
   |false=>
    have D:decide ((i:Int)=(s.length:Int))=true:=GC (by have:=Ge B;omega);simp only[go_sem,u,w,B,D]
   |true=>
    have J:=Yh B;obtain⟨b,y,-⟩:=bO J;have p:=inc64q (i:=i) (by omega)
    have D:decide ((128:Int)<=b.toNat)=true:=GC (by
     rw[Gx] at o;have:=o b (List.mem_of_getElem? y);simp at this;omega)
    simp only[go_sem,u,w,B,D,y,p];exact⟨i+1,by omega,by omega,rfl⟩
 ·obtain⟨l,c,r,hl,hc,rfl⟩:∃l c r,(∀b∈l,128<=b.toNat)/\c.toNat<128/\s=l++c::r:=by
   clear hs
   induction s with
   |nil=>simp at o
   |cons b s ih=>
    by_cases y:b.toNat<128
    ·exact⟨[],b,s,fun x hx=>by simp at hx,y,rfl⟩
    ·obtain⟨l,c,r,h1,h2,h3⟩:=ih (fun h'=>o (by simp only[List.all_cons,h',G0,Gn];omega));exact⟨b::l,c,r,fun x hx=>by
      rcases GN.1 hx with rfl|hx
      ·omega
      ·exact h1 x hx,h2,by rw[h3];rfl⟩
  have I:(l++c::r)[l.length]?=some c:=by simp
  have T:∀i,i<l.length->∃b,(l++c::r)[i]?=some b/\b∈l:=fun i hi=>⟨l[i],by rw[List.getElem?_append_left hi];simp[hi],nj hi⟩;have z:(l++c::r).take (l.length+1)=l++[c]:=by
   rw[show l++c::r=(l++[c])++r by simp,List.take_append_of_le_length (by simp),List.take_of_length_le (by simp)]
  have Q:(l++c::r).drop (l.length+1)=r:=by
   rw[show l++c::r=(l++[c])++r by simp,List.drop_append_of_le_length (by simp),List.drop_of_length_le (by simp)];rfl
  have ai:l.length<(l++c::r).length:=by simp
  rw[oC hl hc];refine⟨3,by decide,aA h rfl ?_⟩;generalize L:(if l.length+1<=9/\aC (val (l++[c]))=l++[c] then some (val (l++[c]),r) else none)=R;generalize ak:l++c::r=s at *
  simp only[F470,c470,go_sem];unfold l470_0;refine bE (fun (i:Nat) S=>i<=l.length/\S.ρ 0=.str s/\S.ρ 5=iz i) (fun i=>l.length-i) 0 ?_ ?_
  ·exact⟨Gy _,rfl,rfl⟩
  ·intro i S ⟨hi,u,w⟩;have B:decide ((i:Int)<(s.length:Int))=true:=GC (by omega);have J:i<s.length:=by omega
   have p:=inc64q (i:=i) (by omega)
   by_cases ac:i<l.length
   ·obtain⟨b,y,O⟩:=T i ac;have D:decide ((128:Int)<=b.toNat)=true:=GC (by have:=hl b O;omega);simp only[go_sem,u,w,B,D,y,p];exact⟨i+1,by omega,by omega,rfl⟩
   ·have ab:i=l.length:=by omega
    rw[<-ab] at I z Q;have D:decide ((128:Int)<=c.toNat)=false:=Gq (by omega);have c3:decide ((i:Int)=(s.length:Int))=false:=Gq (by omega);cases Y:decide ((8:Int)<i) with
    |true=>
     rw[Gu (by have:=Gk Y;omega)] at L;subst L;simp only[go_sem,u,w,B,D,c3,Y,I,eG]
    |false=>
     have h8:i<=8:=by have:=Ge Y;omega
     simp only[go_sem,u,w,B,D,c3,Y,I];have U:val (l++[c])<2 ^ 63:=by
      have h1:=zz (l++[c]);have h2:(128:Nat) ^ (l++[c]).length<=128 ^ 9:=Nat.pow_le_pow_right (by omega) (by simp;omega);have h3:(128:Nat) ^ 9=2 ^ 63:=by decide
      omega
     have H:=lH N (val (l++[c])) U;unfold l470_1;refine bE (fun (m:Nat) S=>m<=i+1/\S.ρ 0=.str s/\S.ρ 5=iz i/\S.ρ 7=iz ((m:Int)-1)/\S.ρ 6=iz (val ((l++[c]).drop m))) (fun m=>m) (i+1) ?_ ?_
     ·refine⟨Gt _,by simp only[go_sem,u],by simp only[go_sem,w],by simp only[go_sem];congr 1;omega,?_⟩;rw[List.drop_of_length_le (by simp;omega)];simp only[go_sem];rfl
     ·intro m S ⟨hm,u,w,s7,s6⟩;by_cases ad:m=0
      ·have M:decide ((0:Int)<=(m:Int)-1)=false:=Gq (by omega);rw[show (l++[c]).drop m=l++[c] by rw[ad];rfl] at s6;have E:i+1<=s.length:=J;by_cases Z:aC (val (l++[c]))=l++[c]
       ·rw[GE ⟨by omega,Z⟩] at L;subst L;have c7:decide (aC (val (l++[c]))=l++[c])=true:=GC Z;simp only[go_sem,u,w,s6,s7,M,H,p,E,z,Q,c7,eG,Gw]
       ·rw[Gu (fun h'=>Z h'.2)] at L;subst L;have c7:decide (aC (val (l++[c]))=l++[c])=false:=Gq Z;simp only[go_sem,u,w,s6,s7,M,H,p,E,z,c7,eG]
      ·obtain⟨j,rfl⟩:∃j,m=j+1:=⟨m-1,by omega⟩;have M:decide ((0:Int)<=((j+1:Nat):Int)-1)=true:=GC (by omega);have hj:(((j+1:Nat):Int)-1)=(j:Int):=by omega
       rw[hj] at s7 M;have aj:j<s.length:=by omega
       obtain⟨b,aa,q⟩:=bO (show j<(l++[c]).length by simp;omega);have y:s[j]?=some b:=by rw[<-aa,<-z,List.getElem?_take_of_lt (by omega)]
       have X:val ((l++[c]).drop j)<2 ^ 63:=by
        have h1:=zz ((l++[c]).drop j);have h2:(128:Nat) ^ ((l++[c]).drop j).length<=128 ^ 9:=Nat.pow_le_pow_right (by omega) (by simp;omega);have h3:(128:Nat) ^ 9=2 ^ 63:=by decide
        omega
       rw[q] at X;simp only[val] at X;have af:IntKind.i64.wrap (128*((val ((l++[c]).drop (j+1)):Nat):Int))=((128*val ((l++[c]).drop (j+1)):Nat):Int):=by rw[bI (by omega) (by omega)];omega
       have O:=b.toNat_lt;have ag:IntKind.i64.wrap (b.toNat:Int)=(b.toNat:Int):=bI (by omega) (by omega);have ae:(b.toNat:Int).tmod 128=((b.toNat % 128:Nat):Int):=rfl;have ah:IntKind.i64.wrap (((128*val ((l++[c]).drop (j+1)):Nat):Int)+((b.toNat % 128:Nat):Int))=((val ((l++[c]).drop j):Nat):Int):=by
        rw[bI (by omega) (by omega),q];simp only[val];omega
       have P:IntKind.i64.wrap ((j:Int)-1)=(j:Int)-1:=bI (by omega) (by omega);simp only[go_sem,u,w,s6,s7,M,y,af,ag,ah,ae,P];exact⟨j,by omega,by omega,rfl,rfl⟩
structure aH where
 wall:Int
 tick:Int
 node:Int
 deriving DecidableEq
structure dt where
 at_:aH
 gone:Bool
 val:List UInt8
 deriving DecidableEq
@[go_sem] def Yg (s:aH):List V:=[iz s.wall,iz s.tick,iz s.node]
@[go_sem] def YX (v:dt):List V:=[iz v.at_.wall,iz v.at_.tick,iz v.at_.node,.bool v.gone,.str v.val]
def Yb (c:List dt):V:=.slice 5 (c.map YX)
def mL (a b:Int):Bool:=decide (0<=a)&&decide (a<=b)
def kP (a b:Int):Int:=if a<b then -1 else if b<a then 1 else 0
def kR:List Int->Int
 |[]=>0
 |a::l=>if a=0 then kR l else a
def Ya (s:aH):Bool:=mL s.wall 1099511627776&&mL s.tick 1048576&&mL s.node 255
def Ye (a b:aH):Int:=kR [kP a.wall b.wall,kP a.tick b.tick,kP a.node b.node]
def Yy (v:dt):Bool:=Ya v.at_&&decide (v.val.length<=16)&&(!v.gone||decide (v.val=[]))
def Ao:=HpZ 32 F32
def L5 (h:Ao Pg) (a b:Int):K' Pg 32 [iz a,iz b]=some (.bool (mL a b)):=by
 refine aA h rfl ?_;simp only[go_sem];refine hJ (fun h=>?_) (fun h=>?_)<;>simp only[go_sem,h,mL]
def An:=HpZ 31 F31
def L4 (h:An Pg) (a:Int):K' Pg 31 [iz a]=some (.bool false):=by
 refine aA h rfl ?_;simp only[go_sem]
def Al:=HpC 26 F26 An
def L2 (h:Al Pg) (a b:Int):K' Pg 26 [iz a,iz b]=some (iz (kP a b)):=by
 obtain⟨h,j⟩:=h;refine aA h rfl ?_;have o:=fun x=>L4 j x;simp only[go_sem,o]
 repeat' (refine bL (fun h=>?_) (fun h=>?_)<;>simp only[go_sem])
 all_goals simp_all [kP]
 omega
def Am:=HpZ 27 F27
def L3 (h:Am Pg) (l:List Int) (z:l.length<2 ^ 60):K' Pg 27 [.slice 1 (l.map fun a=>[iz a])]=some (iz (kR l)):=by
 refine aA h rfl ?_;simp only[go_sem];unfold l27_0;refine bE (fun (i:Nat) S=>i<=l.length/\S.ρ 3=iz 0/\S.ρ 6=.slice 1 (l.map fun a=>[iz a])/\S.ρ 7=iz l.length/\S.ρ 8=iz i/\kR (l.drop i)=kR l) (fun i=>l.length-i) 0 ?_ ?_
 ·simp[go_sem]
 ·intro i S ⟨hi,j,q,u,o,p⟩;simp only[go_sem,u,o];refine bL (fun h=>?_) (fun h=>?_)
  ·simp only[Gn,Int.ofNat_lt] at h;obtain⟨x,y,w⟩:=bO h;simp only[go_sem,j,q,o,y];refine bL (fun h=>?_) (fun h=>?_)
   ·simp only[go_sem];simp only[GI,GM] at h;rw[<-p,w];simp[kR,h]
   ·simp only[go_sem,j,q,u,o];simp only[Bool.not_eq_false',Gn] at h;refine⟨i+1,by omega,by omega,?_,by rw[<-p,w];simp[kR,h]⟩;rw[bI (by omega) (by omega)];rfl
  ·simp only[GM,Int.ofNat_lt] at h;simp only[go_sem,j];have:i=l.length:=by omega
   rw[<-p,this];simp[kR]
def wg:=HpC 15 F15<|HpA Al<|Am
def B3 (h:wg Pg) (a b:aH):K' Pg 15 [.agg (Yg a),.agg (Yg b)]=some (iz (Ye a b)):=by
 obtain⟨h,o,p⟩:=h;refine aA h rfl ?_;have q:=fun x y=>L2 o x y;have j:=L3 p [kP a.wall b.wall,kP a.tick b.tick,kP a.node b.node] (by simp);simp only[GB,GF] at j;simp only[go_sem,q,j,Ye]
def lg:=HpC 28 F28 Ao
def kE (h:lg Pg) (a:aH):K' Pg 28 [.agg (Yg a)]=some (.bool (Ya a)):=by
 obtain⟨h,j⟩:=h;refine aA h rfl ?_;have k:=fun x y=>L5 j x y;simp only[go_sem,k]
 repeat' (refine hJ (fun h=>?_) (fun h=>?_)<;>simp only[go_sem,h,k,Ya])
def Ak:=HpC 22 F22 lg
def L1 (h:Ak Pg) (a:dt):K' Pg 22 [.agg (YX a)]=some (.bool (Yy a)):=by
 obtain⟨h,j⟩:=h;refine aA h rfl ?_;have k:=kE j a.at_;simp only[Yg] at k;simp only[go_sem,k]
 repeat' (first|refine hJ (fun h=>?_) (fun h=>?_)<;>simp only[go_sem,h]|refine nP (fun h=>?_) (fun h=>?_)<;>simp only[go_sem,h])
 all_goals simp_all [Yy]
 all_goals omega
def eB:Option dt->List dt->Bool
 |_,[]=>true
 |p,v::l=>Yy v&&(match p with|none=>true|some q=>decide (Ye q.at_ v.at_<0))&&eB (some v) l
def Yj (c:List dt):Bool:=eB none c&&decide (c.length<=64)
def ia (c:List dt) (i:Nat):Option dt:=if i=0 then none else c[i-1]?
def H7:=HpC 7 F7<|HpA Ak<|wg
def K7 (h:H7 Pg) (l:List dt) (U:l.length<2 ^ 60):K' Pg 7 [Yb l]=some (.bool (Yj l)):=by
 obtain⟨h,O,N⟩:=h;refine aA h rfl ?_;have p:=fun x=>L1 O x;have I:=fun x y=>B3 N x y;simp only[go_sem,Yb];unfold l7_0;refine bE (fun (i:Nat) S=>i<=l.length/\S.ρ 0=Yb l/\S.ρ 5=Yb l/\S.ρ 6=iz l.length/\S.ρ 7=iz i/\S.μ 4=none/\eB (ia l i) (l.drop i)=eB none l) (fun i=>l.length-i) 0 ?_ ?_
 ·simp[go_sem,Yb,ia]
 ·intro i S ⟨hi,h0,J,P,D,hm,B⟩;simp only[go_sem,P,D];refine bL (fun h=>?_) (fun h=>?_)
  ·simp only[Gn,Int.ofNat_lt] at h;obtain⟨x,M,L⟩:=bO h;simp only[Yg,YX] at p I;have j:(Yy x=true->eB (ia l i) (x::l.drop (i+1))=((match ia l i with|none=>true|some q=>decide (Ye q.at_ x.at_<0))&&eB (some x) (l.drop (i+1)))):=fun h=>by simp[eB,h]
   have o:ia l (i+1)=some x:=by simp[ia,M]
   have u:IntKind.i64.wrap ((i:Int)+1)=((i+1:Nat):Int):=bI (by omega) (by omega);have E:Yy x=false->eB none l=false:=fun h=>by rw[<-B,L];simp[eB,h]
   cases z:Yy x with
   |false=>simp only[go_sem,J,D,M,Yb,hm,p,z,kw,Yj,E z]
   |true=>
    rcases G4 i with hz|hz
    ·have w:decide ((0:Int)<(i:Int))=false:=by simp[hz]
     simp only[go_sem,h0,J,P,D,M,Yb,hm,p,z,GR,w];refine⟨i+1,by omega,by omega,by rw[u],?_⟩;rw[o,<-B,L,j z];simp[ia,hz]
    ·have w:decide ((0:Int)<(i:Int))=true:=by simp[hz]
     have H:IntKind.i64.wrap ((i:Int)-1)=((i-1:Nat):Int):=by rw[bI (by omega) (by omega)];omega
     have T:l[i-1]?=some l[i-1]:=by simp
     have R:ia l i=some l[i-1]:=by simp[ia,Nat.ne_of_gt hz]
     simp only[go_sem,h0,J,D,M,Yb,hm,p,z,GR,w,H,T,I];refine bL (fun Q=>?_) (fun Q=>?_)
     ·simp only[go_sem];have:¬Ye l[i-1].at_ x.at_<0:=by simpa using Q
      have:eB none l=false:=by rw[<-B,L,j z,R];simp[this]
      simp[Yj,this]
     ·simp only[go_sem,h0,J,P,D,Yb];have:Ye l[i-1].at_ x.at_<0:=by simpa using Q
      refine⟨i+1,by omega,by omega,by rw[u],?_⟩;rw[o,<-B,L,j z,R];simp[this]
  ·simp only[GM,Int.ofNat_lt] at h;simp only[go_sem,h0,Yb];have:i=l.length:=by omega
   subst this;simp[eB] at B;have:(decide ((l.length:Int)<=64))=decide (l.length<=64):=GU.2 (by omega);simp[Yj,<-B,this]
def vi {a b:aH}:Ye a b<0↔a.wall<b.wall\/(a.wall=b.wall/\(a.tick<b.tick\/(a.tick=b.tick/\a.node<b.node))):=by
 simp only[Ye,kR,kP]
 repeat' split
 all_goals omega
def yK {a b:aH}:0<Ye a b↔b.wall<a.wall\/(b.wall=a.wall/\(b.tick<a.tick\/(b.tick=a.tick/\b.node<a.node))):=by
 simp only[Ye,kR,kP]
 repeat' split
 all_goals omega
def Cr {p:Option dt} {v:dt} {l:List dt} (h:eB p (v::l)=true):eB (some v) l=true:=by
 simp only[eB,Gg] at h;exact h.2
def ME {p v:dt} {l:List dt} (h:eB (some p) l=true) (hv:v∈l):Ye p.at_ v.at_<0:=by
 induction l generalizing p with
 |nil=>simp at hv
 |cons w l o=>
  simp only[eB,Gg,Gn] at h;rcases GN.1 hv with rfl|hv
  ·exact h.1.2
  ·have j:=o h.2 hv;have h1:=h.1.2;rw[vi] at h1 j ⊢;omega
theorem Cm:∀{c:List dt} {p:Option dt} {i j:Nat} {v w:dt},eB p c=true->i<j->c[i]?=some v->c[j]?=some w->Ye v.at_ w.at_<0
 |[],_,i,j,v,w,_,_,hv,_=>by simp at hv
 |x::l,p,i,j,v,w,hc,hij,hv,hw=>by
  cases j with
  |zero=>omega
  |succ j=>
   cases i with
   |zero=>
    simp at hv hw;subst hv;exact ME (Cr hc) (List.mem_of_getElem? hw)
   |succ i=>exact Cm (c:=l) (i:=i) (j:=j) (Cr hc) (by omega) (by simpa using hv) (by simpa using hw)
def Y1 {c:List dt} (h:Yj c=true):eB none c=true/\c.length<=64:=by
 simpa [Yj] using h
def cA (a b:aH):Bool:=decide (Ye a b<0)
def H6:=HpZ 6 F6
def K6 (h:H6 Pg) (a b:aH):K' Pg 6 [.agg (Yg a),.agg (Yg b)]=some (.bool (cA a b)):=by
 refine aA h rfl ?_;simp only[go_sem]
 repeat' (refine bL (fun h=>?_) (fun h=>?_)<;>simp only[go_sem])
 all_goals
  simp only[cA,Ga,V.bool.injEq,GU,vi,GI,Bool.not_eq_false',GM,Gn] at *
  omega
def nr:=HpZ 24 F24
def lG (h:nr Pg) (a:aH):K' Pg 24 [.agg (Yg a)]=some (.bool (Ya a)):=by
 refine aA h rfl ?_;simp only[go_sem]
 repeat' (refine hJ (fun h=>?_) (fun h=>?_)<;>simp only[go_sem,h])
 all_goals simp_all [Ya,mL]
 all_goals (intros;omega)
def H5:=HpC 5 F5 nr
def K5 (h:H5 Pg) (v:dt):K' Pg 5 [.agg (YX v)]=some (.bool (Yy v)):=by
 obtain⟨h,o⟩:=h;refine aA h rfl ?_;have j:=lG o v.at_;simp only[Yg] at j;simp only[go_sem]
 repeat' (first|refine hJ (fun h=>?_) (fun h=>?_)<;>simp only[go_sem,h,j]|refine bL (fun h=>?_) (fun h=>?_)<;>simp only[go_sem,h,j])
 all_goals
  simp only[Yy,Ga,V.bool.injEq] at *
  cases p:v.val<;>simp_all
 all_goals omega
def sS:Option dt->dt->Bool
 |none,_=>true
 |some q,x=>decide (Ye q.at_ x.at_<0)
def yF {p:Option dt} {x:dt} {l:List dt} (h:Yy x=true):eB p (x::l)=(sS p x&&eB (some x) l):=by
 cases p<;>simp[eB,sS,h]
def H4:=HpC 4 F4<|HpA H5<|H6
def K4 (h:H4 Pg) (l:List dt) (R:l.length<2 ^ 60):K' Pg 4 [Yb l]=some (.bool (Yj l)):=by
 obtain⟨h,I,J⟩:=h;refine aA h rfl ?_;have O:=fun x=>K5 I x;have P:=fun x y=>K6 J x y;simp only[YX,Yg] at O P;simp only[go_sem,Yb];refine bL (fun j=>?_) (fun j=>?_)
 ·have j:¬l.length<=64:=by have:=Gk j;omega
  simp only[go_sem,Yj,j,decide_false]
 ·have j:l.length<=64:=by have:=Ge j;omega
  have u:Yj l=eB none l:=by simp[Yj,j]
  simp only[go_sem];unfold l4_0;refine bE (fun (i:Nat) S=>i<=l.length/\S.ρ 0=Yb l/\S.ρ 3=iz i/\eB (ia l i) (l.drop i)=eB none l) (fun i=>l.length-i) 0 ?_ ?_
  ·simp[go_sem,Yb,ia]
  ·intro i S ⟨hi,h0,z,B⟩;simp only[go_sem,h0,z,Yb];refine bL (fun h=>?_) (fun h=>?_)
   ·simp only[Gn,Int.ofNat_lt] at h;obtain⟨x,M,H⟩:=bO h;have o:ia l (i+1)=some x:=by simp[ia,M]
    have q:IntKind.i64.wrap ((i:Int)+1)=((i+1:Nat):Int):=bI (by omega) (by omega);have D:Yy x=false->eB none l=false:=fun h=>by rw[<-B,H];simp[eB,h]
    simp only[go_sem,h0,z,M,Yb,O];refine bL (fun p=>?_) (fun p=>?_)
    ·have p:Yy x=false:=by simpa using p
     simp only[go_sem,u,D p]
    ·have p:Yy x=true:=by simpa using p
     simp only[go_sem,z];refine hJ (fun hz=>?_) (fun hz=>?_)
     ·have w:0<i:=by have:=Gk hz;omega
      have E:IntKind.i64.wrap ((i:Int)-1)=((i-1:Nat):Int):=by rw[bI (by omega) (by omega)];omega
      have Q:l[i-1]?=some l[i-1]:=by simp
      have N:ia l i=some l[i-1]:=by simp[ia,Nat.ne_of_gt w]
      simp only[go_sem,h0,z,M,Yb,hz,E,Q,P];refine bL (fun j=>?_) (fun j=>?_)
      ·have L:¬Ye l[i-1].at_ x.at_<0:=by simpa [cA] using j
       have:eB none l=false:=by rw[<-B,H,yF p,N];simp[sS,L]
       simp only[go_sem,u,this]
      ·have L:Ye l[i-1].at_ x.at_<0:=by simpa [cA] using j
       simp only[go_sem,h0,z,Yb];refine⟨i+1,by omega,by omega,by rw[q],?_⟩;rw[o,<-B,H,yF p,N];simp[sS,L]
     ·have w:i=0:=by have:=Ge hz;omega
      simp only[go_sem,h0,z,Yb,hz];refine⟨i+1,by omega,by omega,by rw[q],?_⟩;rw[o,<-B,H,yF p];simp[sS,ia,w]
   ·simp only[GM,Int.ofNat_lt] at h;have:i=l.length:=by omega
    subst this;simp[eB] at B;simp only[go_sem,u,B]
def ri:=HpC 494 F494 lj
def yf (h:ri Pg) (s:List UInt8) (y:s.length<2 ^ 62):∃e:Int,e≠0/\K' Pg 494 [.str s]=some (iF e (bS s)):=by
 obtain⟨h,j⟩:=h;obtain⟨e,p,k⟩:=j3 j s y;unfold bS;cases u:tk 9 s with
 |none=>
  rw[u] at k;have w:decide (e=0)=false:=Gq p;refine⟨e,p,aA h rfl ?_⟩;simp only[eG] at k;simp only[F494,c494,go_sem,k,w,Option.bind_none,iF]
 |some q=>
  obtain⟨n,r⟩:=q;rw[u] at k;simp only[eG] at k;simp only[Option.bind_some];cases o:decide ((r.length:Int)<n) with
  |true=>
   refine⟨2,by decide,aA h rfl ?_⟩;have h1:¬n<=r.length:=by have:=Gk o;omega
   simp only[F494,c494,go_sem,k,o,Gu h1,iF]
  |false=>
   refine⟨2,by decide,aA h rfl ?_⟩;have h1:n<=r.length:=by have:=Ge o;omega
   simp only[F494,c494,go_sem,k,o,h1,iF,Gw]
def rj:=HpZ 495 F495
def yg (h:rj Pg) (s:List UInt8):∃e:Int,e≠0/\K' Pg 495 [.str s]=some (jx e (dC s)):=by
 cases s with
 |nil=>
  refine⟨2,by decide,aA h rfl ?_⟩;simp only[F495,c495,go_sem,dC,jx]
 |cons b s=>
  have h0:mz (.str (b::s)) (.int .i64 0)=some (.int .u8 b.toNat):=rfl;have j:decide (((s.length+1:Nat):Int)=0)=false:=Gq (by omega);have u:decide ((b.toNat:Int)=1)=decide (b.toNat=1):=GU.2 (by omega);have p:1<=s.length+1:=by omega
  have q:List.take (s.length+1) (b::s)=b::s:=by simp
  refine⟨3,by decide,aA h rfl ?_⟩;cases o:decide ((1:Int)<b.toNat) with
  |true=>
   have h1:¬b.toNat<=1:=by have:=Gk o;omega
   simp only[F495,c495,go_sem,o,h0,j,dC,jx,Gu h1,List.length_cons]
  |false=>
   have h1:b.toNat<=1:=by have:=Ge o;omega
   simp only[F495,c495,go_sem,o,h0,j,u,p,q,dC,jx,GE h1,List.length_cons,List.drop_succ_cons,List.drop_zero]
def dh (s:aH):List UInt8:=aC s.wall.toNat++(aC s.tick.toNat++aC s.node.toNat)
def bY (s:List UInt8):Option (aH×List UInt8):=(tk 9 s).bind fun a=>(tk 9 a.2).bind fun b=>(tk 9 b.2).bind fun c=>if Ya ⟨a.1,b.1,c.1⟩ then some (⟨a.1,b.1,c.1⟩,c.2) else none
def iv (e:Int):Option (aH×List UInt8)->V
 |some (n,r)=>.tuple [.agg (Yg n),.str r,iz 0]
 |none=>.tuple [.agg [iz 0,iz 0,iz 0],.str [],iz e]
def Ab {s:aH}:Ya s=true↔(0<=s.wall/\s.wall<=1099511627776)/\(0<=s.tick/\s.tick<=1048576)/\(0<=s.node/\s.node<=255):=by
 simp only[Ya,mL,Gg,Gn];constructor
 ·rintro⟨⟨h1,j⟩,o⟩;exact⟨h1,j,o⟩
 ·rintro⟨h1,j,o⟩;exact⟨⟨h1,j⟩,o⟩
def MO {s r:List UInt8} {t:aH}:bY s=some (t,r)↔s=dh t++r/\Ya t=true:=by
 unfold bY dh;constructor
 ·intro h;cases h1:tk 9 s with
  |none=>rw[h1] at h;cases h
  |some a=>
   rw[h1] at h;simp only[Option.bind_some] at h;cases j:tk 9 a.2 with
   |none=>rw[j] at h;cases h
   |some b=>
    rw[j] at h;simp only[Option.bind_some] at h;cases o:tk 9 b.2 with
    |none=>rw[o] at h;cases h
    |some c=>
     rw[o] at h;simp only[Option.bind_some] at h;split at h
     ·rename_i w;simp only[Ga,Gi] at h;obtain⟨rfl,rfl⟩:=h;refine⟨?_,w⟩;obtain⟨a1,a2⟩:=a;obtain⟨y,z⟩:=b;obtain⟨B,D⟩:=c;simp only at j o ⊢;rw[(jB h1).1,(jB j).1,(jB o).1];simp
     ·cases h
 ·rintro⟨rfl,h⟩;obtain⟨h1,j,o⟩:=Ab.1 h;have p:((t.wall.toNat:Nat):Int)=t.wall:=by omega
  have q:((t.tick.toNat:Nat):Int)=t.tick:=by omega
  have u:((t.node.toNat:Nat):Int)=t.node:=by omega
  have ht:(⟨t.wall.toNat,t.tick.toNat,t.node.toNat⟩:aH)=t:=by rw[p,q,u]
  rw[Gr,Gr,pd 9 _ _ (YG.2 (by omega))];simp only[Option.bind_some];rw[pd 9 _ _ (YG.2 (by omega))];simp only[Option.bind_some];rw[pd 9 _ _ (YG.2 (by omega))];simp only[Option.bind_some];rw[ht,GE h]
def Yc (l:List Int):List UInt8:=l.flatMap fun n=>aC n.toNat
def zm {l:List Int} {n:Int}:Yc (l++[n])=Yc l++aC n.toNat:=by simp[Yc]
theorem vg:∀{l:List Int},(∀n∈l,n.toNat<2 ^ 63)->(Yc l).length<=9*l.length
 |[],_=>by simp[Yc]
 |a::l,h=>by
  have h1:=YG.2 (h a (by simp));have j:=vg (l:=l) fun n o=>h n (by simp[o]);simp only[Yc,GH,Gb,List.length_cons] at j ⊢;omega
def re:=HpC 483 F483 iV
def xX (h:re Pg) (l:List Int) (E:∀n∈l,0<=n/\n<2 ^ 63) (I:l.length<=10000):K' Pg 483 [Yi l]=some (.tuple [.str (Yc l),iz 0]):=by
 obtain⟨h,j⟩:=h;refine aA h rfl ?_;simp only[F483,c483,go_sem];unfold l483_0;refine bE (fun (i:Nat) S=>i<=l.length/\S.ρ 9=Yi l/\S.ρ 10=iz l.length/\S.ρ 11=iz i/\S.ρ 4=.own 4 1 (Yc (l.take i)).length/\S.A 4=some (1,(Yc (l.take i)).map cW,.live)) (fun i=>l.length-i) 0 ?_ ?_
 ·exact⟨Gy _,rfl,by simp only[go_sem],rfl,rfl,rfl⟩
 ·intro i S ⟨hi,J,u,w,D,a4⟩;cases y:decide ((i:Int)<(l.length:Int)) with
  |false=>
   have:i=l.length:=by have:=Ge y;omega
   subst this;rw[Gw] at D a4;simp only[go_sem,u,w,D,a4,y,My,Gf]
  |true=>
   have z:=Yh y;obtain⟨n,B,-⟩:=bO z;have o:=inc64q (i:=i) (by omega)
   obtain⟨n0,M⟩:=E n (List.mem_of_getElem? B);have k:K' Pg 456 [iz n]=some (.tuple [.str (aC n.toNat),iz 0]):=by
    have:=nR j n.toNat (by omega);rw[show ((n.toNat:Nat):Int)=n by omega] at this;exact this
   have q:l.take (i+1)=l.take i++[n]:=by rw[GW,B];rfl
   have H:=vg (l:=l.take i) fun m hm=>by have:=E m (pm hm);omega
   rw[GP] at H;have L:=YG.2 (show n.toNat<2 ^ 63 by omega);have p:(Yc (l.take i)).length+(aC n.toNat).length<=dj:=by unfold dj;omega
   simp only[go_sem,J,u,w,D,a4,y,B,k,o,Gf,p];refine⟨i+1,by omega,by omega,rfl,by rw[q,zm,Gb],by rw[q,zm,GJ];rfl⟩
def nD:=HpC 455 F455<|HpA re<|lg
def xR (h:nD Pg) (s:aH) (u:Ya s=true):K' Pg 455 [.agg (Yg s)]=some (.tuple [.str (dh s),iz 0]):=by
 obtain⟨h,o,p⟩:=h;have j:=kE p s;rw[u] at j;obtain⟨h1,w,y⟩:=Ab.1 u;have k:=xX o [s.wall,s.tick,s.node] (fun n q=>by simp at q;rcases q with rfl|rfl|rfl<;>omega) (by simp);have e:Yc [s.wall,s.tick,s.node]=dh s:=by simp[Yc,dh]
 rw[e] at k;simp only[go_sem,GB,GF] at k j;refine aA h rfl ?_;simp only[F455,c455,go_sem,j,k]
def nG:=HpC 486 F486 gI
def yd (h:nG Pg) (s:aH) (q:Ya s=true):K' Pg 486 [.agg (Yg s)]=some (.str (dh s)):=by
 obtain⟨h,j⟩:=h;obtain⟨h1,y,z⟩:=Ab.1 q;have kk:∀n:Int,0<=n->n<2 ^ 63->K' Pg 487 [iz n]=some (.tuple [.str (aC n.toNat),iz 0]):=fun n a b=>by
  have:=lH j n.toNat (by omega);rw[show ((n.toNat:Nat):Int)=n by omega] at this;exact this
 have u:=kk s.wall (by omega) (by omega);have w:=kk s.tick (by omega) (by omega);have k3:=kk s.node (by omega) (by omega);have B:=YG.2 (show s.wall.toNat<2 ^ 63 by omega);have D:=YG.2 (show s.tick.toNat<2 ^ 63 by omega);have E:=YG.2 (show s.node.toNat<2 ^ 63 by omega);have o:(aC s.wall.toNat).length+(aC s.tick.toNat).length<=4611686018427387904:=by omega
 have p:(aC s.wall.toNat).length+(aC s.tick.toNat).length+(aC s.node.toNat).length<=4611686018427387904:=by omega
 refine aA h rfl ?_;simp only[F486,c486,go_sem,u,w,k3,o,p,Gb,dh,Gr]
def qZ:=HpC 469 F469<|HpA lj<|nr
def xW (h:qZ Pg) (s:List UInt8) (U:s.length<2 ^ 62):∃e:Int,e≠0/\K' Pg 469 [.str s]=some (iv e (bY s)):=by
 obtain⟨h,p,I⟩:=h;obtain⟨e,Q,k⟩:=j3 p s U;have S:decide (e=0)=false:=Gq Q;unfold bY;cases L:tk 9 s with
 |none=>
  rw[L] at k;refine⟨e,Q,aA h rfl ?_⟩;simp only[eG] at k;simp only[F469,c469,go_sem,k,S,Option.bind_none,iv]
 |some q=>
  obtain⟨n,r⟩:=q;rw[L] at k;simp only[eG] at k;simp only[Option.bind_some];have T:r.length<2 ^ 62:=by have:=fp List.length (jB L).1;simp at this;omega
  obtain⟨P,D,k'⟩:=j3 p r T;have J:decide (P=0)=false:=Gq D;cases y:tk 9 r with
  |none=>
   rw[y] at k';refine⟨P,D,aA h rfl ?_⟩;simp only[eG] at k';simp only[F469,c469,go_sem,k,k',J,Option.bind_none,iv]
  |some W=>
   obtain⟨R,O⟩:=W;rw[y] at k';simp only[eG] at k';simp only[Option.bind_some];have M:O.length<2 ^ 62:=by have:=fp List.length (jB y).1;simp at this;omega
   obtain⟨z,u,j⟩:=j3 p O M;have B:decide (z=0)=false:=Gq u;cases w:tk 9 O with
   |none=>
    rw[w] at j;refine⟨z,u,aA h rfl ?_⟩;simp only[eG] at j;simp only[F469,c469,go_sem,k,k',j,B,Option.bind_none,iv]
   |some N=>
    obtain⟨H,X⟩:=N;rw[w] at j;simp only[eG] at j;have o:=lG I ⟨n,R,H⟩;refine⟨3,by decide,aA h rfl ?_⟩;simp only[Option.bind_some];cases E:Ya ⟨n,R,H⟩ with
    |true=>
     rw[E] at o;simp only[go_sem] at o;simp only[F469,c469,go_sem,k,k',j,o,GS,iv]
    |false=>
     rw[E] at o;simp only[go_sem] at o;simp only[F469,c469,go_sem,k,k',j,o,Gv,GO,iv]
def vI (nu:Nat->Nat) (i:Nat):List V:=[iz ((if 0<i then nu 0 else 0:Nat):Int),iz ((if 1<i then nu 1 else 0:Nat):Int),iz ((if 2<i then nu 2 else 0:Nat):Int)]
def Oi {S:St} {nu:Nat->Nat} {i:Nat} (hi:i<3):gx S 5 i [iz (nu i)] (some (vI nu i,false))=some ⟨S.ρ,aE S.μ 5 (some (vI nu (i+1),false)),S.A⟩:=by
 rcases (show i=0\/i=1\/i=2 by omega) with rfl|rfl|rfl<;>rfl
def rh:=HpC 490 F490<|HpA jN<|lg
def iA (h:Pg 490=some (.code F490)) (B:lg Pg) {aR:Nat->List UInt8} {nu:Nat->Nat} {m:Nat} {e:Int} (hm:m<=3)
  (R:∀i,i<m->K' Pg 491 [.str (aR i)]=some (.tuple [iz (nu i),.str (aR (i+1)),iz 0])) (Q:m<3->e≠0/\K' Pg 491 [.str (aR m)]=some (.tuple [iz 0,.str [],iz e])) :
  K' Pg 490 [.str (aR 0)]=some (iv (if m<3 then e else 3) (if m<3 then none else if Ya ⟨nu 0,nu 1,nu 2⟩ then some (⟨nu 0,nu 1,nu 2⟩,aR 3) else none)):=by
 refine aA h rfl ?_
 have J:jS 1 3 (.lref 5 0) (.int .i64 0)=some (.lref 5 0):=rfl
 have L:jS 1 3 (.lref 5 0) (.int .i64 1)=some (.lref 5 1):=rfl
 have M:jS 1 3 (.lref 5 0) (.int .i64 2)=some (.lref 5 2):=rfl
 simp only[F490,c490,go_sem]
 unfold l490_0
 refine bE (fun (i:Nat) S=>i<=m/\S.ρ 0=.str (aR i)/\S.ρ 2=.lref 2 0/\S.ρ 5=.lref 5 0/\S.ρ 11=iz i/\S.μ 2=some ([iz 0,iz 0,iz 0],false)/\S.μ 5=some (vI nu i,false)/\S.μ 10=none) (fun i=>3-i) 0 ?_ ?_
 ·exact⟨Gy _,rfl,rfl,rfl,rfl,rfl,rfl,rfl⟩
 ·intro i S ⟨hi,y,z,I,p,m2,m5,ig⟩
  cases q:decide ((i:Int)<3) with
  |false=>
   have O:i=3:=by have:=Ge q;omega
   have T:m=3:=by omega
   rw[Gu (by omega),Gu (by omega)]
   rw[O] at m5 y
   have j:=kE B ⟨nu 0,nu 1,nu 2⟩
   have U:vI nu 3=[iz (nu 0),iz (nu 1),iz (nu 2)]:=rfl
   rw[U] at m5
   cases o:Ya ⟨nu 0,nu 1,nu 2⟩ with
   |true=>
    rw[o] at j
    simp only[go_sem] at j
    simp only[go_sem,y,z,I,p,m2,m5,ig,q,J,L,M,j,GS,iv]
   |false=>
    rw[o] at j
    simp only[go_sem] at j
    simp only[go_sem,z,I,p,m2,m5,ig,q,J,L,M,j,Gv,GO,iv]
  |true=>
   have D:i<3:=by have:=Gk q;omega
   have w:=inc64q (i:=i) (by omega)
   by_cases H:i<m
   ·have k:=R i H
    have o:=fun S=>Oi (S:=S) (nu:=nu) D
    have E:jS 1 3 (.lref 5 0) (iz (i:Int))=some (.lref 5 i):=by
     rcases (show i=0\/i=1\/i=2 by omega) with rfl|rfl|rfl<;>rfl
    simp only[go_sem,y,z,I,p,m2,m5,ig,q,k,o,E,w]
    exact⟨i+1,by omega,by omega,rfl,rfl,rfl⟩
   ·have u:i=m:=by omega
    obtain⟨N,k⟩:=Q (by omega)
    rw[<-u] at k
    have P:decide (e=0)=false:=Gq N
    rw[GE (by omega),GE (by omega)]
    simp only[go_sem,y,z,p,m2,q,k,P,iv]
def ye (h:rh Pg) (s:List UInt8) (Q:s.length<2 ^ 62):∃e:Int,e≠0/\K' Pg 490 [.str s]=some (iv e (bY s)):=by
 obtain⟨h,j,o⟩:=h;obtain⟨e,N,k⟩:=i4 j s Q;unfold bY;cases E:tk 9 s with
 |none=>
  rw[E] at k;exact⟨e,N,by
   have:=iA h o (aR:=fun _=>s) (nu:=fun _=>0) (m:=0) (e:=e) (by omega) (fun i hi=>by omega) (fun _=>⟨N,k⟩);exact this⟩
 |some q=>
  obtain⟨n,r⟩:=q;rw[E] at k;have P:r.length<2 ^ 62:=by have:=fp List.length (jB E).1;simp at this;omega
  obtain⟨M,B,k'⟩:=i4 j r P;simp only[Option.bind_some];cases y:tk 9 r with
  |none=>
   rw[y] at k';exact⟨M,B,by
    have:=iA h o (aR:=fun i=>if i=0 then s else r) (nu:=fun _=>n) (m:=1) (e:=M) (by omega) (fun i hi=>by
     have h0:i=0:=by omega
     subst h0;exact k) (fun _=>⟨B,k'⟩)
    exact this⟩
  |some R=>
   obtain⟨O,D⟩:=R;rw[y] at k';simp only[Option.bind_some];have H:D.length<2 ^ 62:=by have:=fp List.length (jB y).1;simp at this;omega
   obtain⟨z,u,p⟩:=i4 j D H;cases w:tk 9 D with
   |none=>
    rw[w] at p;exact⟨z,u,by
     have:=iA h o (aR:=fun i=>if i=0 then s else if i=1 then r else D) (nu:=fun i=>if i=0 then n else O) (m:=2) (e:=z) (by omega) (fun i hi=>by
      rcases (show i=0\/i=1 by omega) with rfl|rfl
      ·exact k
      ·exact k') (fun _=>⟨u,p⟩)
     exact this⟩
   |some J=>
    obtain⟨I,L⟩:=J;rw[w] at p;exact⟨3,by decide,by
     have:=iA h o (aR:=fun i=>if i=0 then s else if i=1 then r else if i=2 then D else L) (nu:=fun i=>if i=0 then n else if i=1 then O else I) (m:=3) (e:=3) (by omega) (fun i hi=>by
      rcases (show i=0\/i=1\/i=2 by omega) with rfl|rfl|rfl
      ·exact k
      ·exact k'
      ·exact p) (fun h=>by omega)
     exact this⟩
def Au:=HpZ 61 F61
def B7 (h:Au Pg) (l:List Int):K' Pg 61 [Yi l]=some (.bool (decide (cP l))):=by
 refine aA h rfl ?_;simp only[go_sem];refine bL (fun j=>?_) (fun j=>?_)
 ·have j:¬cP l:=fun⟨e,_⟩=>by have:=Gk j;omega
  simp only[go_sem,j]
 ·have L:l.length<=8:=by have:=Ge j;omega
  simp only[go_sem];unfold l61_0;refine bE (fun (i:Nat) S=>i<=l.length/\S.ρ 0=Yi l/\S.ρ 3=iz i/\(∀m∈l.take i,1<=m/\m<=255)/\(l.take i).Nodup) (fun i=>l.length-i) 0 ?_ ?_
  ·simp[go_sem]
  ·intro i S ⟨hi,h0,o,q,u⟩;simp only[go_sem,h0,o];refine bL (fun h=>?_) (fun h=>?_)
   ·have h:=Yh h;obtain⟨x,z,N⟩:=bO h;have bad:¬(1<=x/\x<=255)->¬cP l:=fun e=>vv z (.inl e);simp only[go_sem,h0,o,z];refine nP (fun j=>?_) (fun j=>?_)
    ·have h1:¬x<1:=Ge j;simp only[go_sem,h0,o,z,h1];refine bL (fun j=>?_) (fun j=>?_)
     ·have w:¬cP l:=bad (by have:=Gk j;omega);simp only[go_sem,w]
     ·have M:¬255<x:=Ge j;simp only[go_sem];unfold l61_1;refine bE (fun (k:Nat) S=>k<=i/\S.ρ 0=Yi l/\S.ρ 3=iz i/\S.ρ 4=iz k/\x∉l.take k) (fun k=>i-k) 0 ?_ ?_
      ·simp[go_sem,h0,o]
      ·intro k S ⟨J,h0,o,D,B⟩;simp only[go_sem,o,D];refine bL (fun p=>?_) (fun p=>?_)
       ·have p:=Yh p;obtain⟨y,E,I⟩:=bO (l:=l) (i:=k) (by omega);simp only[go_sem,h0,o,D,z,E];refine bL (fun j=>?_) (fun j=>?_)
        ·have j:y=x:=Gk j;have hm:x∈l.take i:=by
          rw[<-j];have:(l.take i)[k]?=some y:=by rw[List.getElem?_take,GE p];exact E
          exact List.mem_of_getElem? this
         have w:¬cP l:=vv z (.inr hm);simp only[go_sem,w]
        ·have j:¬y=x:=Ge j;simp only[go_sem,h0,o,D];refine⟨k+1,by omega,by omega,by rw[Ym p (by omega)],?_⟩;rw[YH E];simp;exact⟨B,fun e=>j e.symm⟩
       ·have p:=Yr J p;subst p;have H:=CS z ⟨q,u⟩ (by omega) B;simp only[go_sem,h0,o];exact⟨k+1,by omega,by omega,by rw[Ym h (by omega)],H.1,H.2⟩
    ·have h1:x<1:=Gk j;have w:¬cP l:=bad (by omega);simp only[go_sem,h1,w]
   ·have h:=Yr hi h;rw[oc h] at q u;have w:cP l:=⟨L,q,u⟩;simp only[go_sem,w]
def Aw:=HpC 64 F64 uv
def B8 (h:Aw Pg) (l:List Int) (I:l.length<2 ^ 60):K' Pg 64 [Yi l]=some (.bool (decide (cP l))):=by
 obtain⟨h,z⟩:=h;refine aA h rfl ?_;simp only[go_sem];unfold l64_0;refine bE (fun (i:Nat) S=>i<=l.length/\S.ρ 0=Yi l/\S.ρ 5=Yi l/\S.ρ 6=iz l.length/\S.ρ 7=iz i/\(∀m∈l.take i,1<=m/\m<=255)/\(l.take i).Nodup) (fun i=>l.length-i) 0 ?_ ?_
 ·simp[go_sem]
 ·intro i S ⟨hi,h0,D,E,B,o,p⟩;simp only[go_sem,E,B];refine bL (fun h=>?_) (fun h=>?_)
  ·have h:=Yh h;obtain⟨x,w,J⟩:=bO h;have bad:¬(1<=x/\x<=255)->¬cP l:=fun e=>vv w (.inl e);have u:=uY z (l.take i) x (by simp;omega);simp only[Yi,List.map_take] at u;simp only[go_sem,D,B,w];refine nP (fun j=>?_) (fun j=>?_)
   ·have h1:¬x<1:=Ge j;simp only[go_sem,h1];refine nP (fun j=>?_) (fun j=>?_)
    ·have y:¬255<x:=Ge j;simp only[go_sem,h0,hi,y,u];refine bL (fun j=>?_) (fun j=>?_)
     ·have q:¬cP l:=vv w (.inr (Gk j));simp only[go_sem,q]
     ·have H:=CS w ⟨o,p⟩ (by omega) (Ge j);simp only[go_sem,h0,D,E,B];exact⟨i+1,by omega,by omega,by rw[Ym h I],H.1,H.2⟩
    ·have y:255<x:=Gk j;have q:¬cP l:=bad (by omega);simp only[go_sem,y,q]
   ·have h1:x<1:=Gk j;have q:¬cP l:=bad (by omega);simp only[go_sem,h1,q]
  ·have h:=Yr hi h;rw[oc h] at o p;simp only[go_sem,h0];have:decide ((l.length:Int)<=8)=decide (cP l):=GU.2 ⟨fun e=>⟨by omega,o,p⟩,fun e=>by have:=e.1;omega⟩;rw[this]
structure dL where
 id:Int
 view:Int
 members:List Int
 n:Int
 base:List UInt8
 text:List UInt8
 acks:List Int
 deriving DecidableEq
structure fv where
 kind:Int
 frm:Int
 to:Int
 view:Int
 n:Int
 members:List Int
 text:List UInt8
 deriving DecidableEq
@[go_sem] def YB (r:dL):List V:=[iz r.id,iz r.view,Yi r.members,iz r.n,.str r.base,.str r.text,Yi r.acks]
@[go_sem] def Mo (r:fv):List V:=[iz r.kind,iz r.frm,iz r.to,iz r.view,iz r.n,Yi r.members,.str r.text]
structure dL.Ok (r:dL):Prop where
 m:r.members.length<2 ^ 60
 a:r.acks.length<2 ^ 60
def jw (n j:Int):Bool:=decide (j<=n)&&decide (n<=1099511627776)
def Av:=HpZ 63 F63
def Mb (h:Av Pg) (n j:Int):K' Pg 63 [iz n,iz j]=some (.bool (jw n j)):=by
 refine aA h rfl ?_;simp only[go_sem];refine hJ (fun h=>?_) (fun h=>?_)<;>simp only[go_sem,h,jw]
def At:=HpZ 60 F60
def Ma (h:At Pg) (n:Int):K' Pg 60 [iz n]=some (.bool (jw n 1)):=by
 refine aA h rfl ?_;simp only[go_sem];refine hJ (fun h=>?_) (fun h=>?_)<;>simp only[go_sem,h,jw]
def Yn (r:dL):Bool:=match r.members with|[]=>false|m::_=>decide (m=r.id)
def wn:=HpZ 68 F68
def B9 (h:wn Pg) (r:dL):K' Pg 68 [.agg (YB r)]=some (.bool (Yn r)):=by
 refine aA h rfl ?_;obtain⟨id,view,members,n,base,text,acks⟩:=r;cases members with
 |nil=>simp only[go_sem,Yn]
 |cons m l=>
  have h0:im 1 (V.slice 1 ([iz m]::List.map (fun a=>[iz a]) l)) (iz 0)=some (.cptr [iz m] 0):=rfl;simp only[go_sem,Yn,Cj,h0]
def wi:=HpZ 38 F38
def B4 (h:wi Pg) (r:dL):K' Pg 38 [.agg (YB r)]=some (.bool (Yn r)):=by
 refine aA h rfl ?_;obtain⟨id,view,members,n,base,text,acks⟩:=r;cases members with
 |nil=>simp only[go_sem,Yn]
 |cons m l=>
  have h0:im 1 (V.slice 1 ([iz m]::List.map (fun a=>[iz a]) l)) (iz 0)=some (.cptr [iz m] 0):=rfl;simp only[go_sem,Yn,Cj,h0]
def iC (r:dL):Bool:=r.members.all fun m=>decide (m∈r.acks)
def wk:=HpC 42 F42 wm
def B6 (h:wk Pg) (r:dL) (ok:r.Ok):K' Pg 42 [.agg (YB r)]=some (.bool (iC r)):=by
 obtain⟨h,q⟩:=h;have o:=fun x=>yz q r.acks x ok.a;simp only[Yi] at o;refine aA h rfl ?_;simp only[go_sem];unfold l42_0;refine bE (fun (i:Nat) S=>i<=r.members.length/\S.ρ 1=.lref 1 0/\S.μ 1=some (YB r,false)/\S.ρ 3=iz i/\(∀m∈r.members.take i,m∈r.acks)) (fun i=>r.members.length-i) 0 ?_ ?_
 ·simp[go_sem]
 ·intro i S ⟨hi,h1,y,p,u⟩;simp only[go_sem,h1,y,p];refine bL (fun h=>?_) (fun h=>?_)
  ·have h:=Yh h;obtain⟨x,w,z⟩:=bO h;simp only[go_sem,h1,y,p,w,o];refine bL (fun j=>?_) (fun j=>?_)
   ·have j:x∉r.acks:=by simpa using j
    have:iC r=false:=by
     simp only[iC,List.all_eq_false];exact⟨x,List.mem_of_getElem? w,by simpa using j⟩
    simp only[go_sem,this]
   ·have j:x∈r.acks:=by simpa using j
    simp only[go_sem,h1,y,p];refine⟨i+1,by omega,by omega,by rw[Ym h ok.m],fun m hm=>?_⟩;rw[YH w] at hm;rcases GV.1 hm with hm|hm
    ·exact u m hm
    ·have:m=x:=by simpa using hm
     rw[this];exact j
  ·have h:=Yr hi h;rw[oc h] at u;have:iC r=true:=by simpa [iC] using u
   simp only[go_sem,this]
def bU (r:dL):Bool:=
 !(decide (r.id<1)||(decide (255<r.id)||((!decide (r.view=0)&&!jw r.view 1)||((!decide (r.n=0)&&!jw r.n 1)||(!decide (cP r.members)||!decide (cP r.acks)))))) &&
  (r.acks.all (fun m=>decide (m∈r.members))&&(!(decide ((0:Int)<(r.members.length:Int))&&!decide (r.id∈r.members)) &&
  (bif Yn r then decide (r.id∈r.acks)&&(!iC r||decide (r.base=r.text)) else decide ((r.acks.length:Int)=0)&&decide (r.base=r.text))))
def Ap:=HpC 37 F37<|HpA At<|HpA Au<|HpA wm<|HpA wi<|wk
def L6 (h:Ap Pg) (r:dL) (ok:r.Ok):K' Pg 37 [.agg (YB r)]=some (.bool (bU r)):=by
 obtain⟨h,N,B,D,L,M⟩:=h;have H:=fun x=>Ma N x;have j:=B7 B r.members;have q:=B7 B r.acks;have o:=fun x=>yz D r.members x ok.m;have u:=fun x=>yz D r.acks x ok.a;have y:=B4 L r;have E:=B6 M r ok;simp only[Yi,YB] at H j q o u y E;refine aA h rfl ?_;simp only[go_sem]
 repeat' (first|refine nP (fun h=>?_) (fun h=>?_)<;>simp only[go_sem,h,j,q]|refine hJ (fun h=>?_) (fun h=>?_)<;>simp only[go_sem,h,H,j]|refine bL (fun h=>?_) (fun h=>?_)<;>simp only[go_sem,h])
 all_goals first|(simp only[bU, *,GR,kw,Bool.or_true,ky,Bool.or_false,G0,GK,Gm,Gl];done)|skip
 all_goals
  unfold l37_0
  refine bE (fun (i:Nat) S=>i<=r.acks.length/\S.ρ 1=.lref 1 0/\S.μ 1=some (YB r,false)/\S.ρ 3=iz i/\(∀m∈r.acks.take i,m∈r.members)) (fun i=>r.acks.length-i) 0 ?_ ?_
  ·simp[go_sem]
  ·intro i S ⟨hi,h1,z,J,I⟩
   simp only[go_sem,h1,z,J]
   refine bL (fun h=>?_) (fun h=>?_)
   ·have h:=Yh h
    obtain⟨x,O,P⟩:=bO h
    simp only[go_sem,h1,z,J,O,o]
    refine bL (fun w=>?_) (fun w=>?_)
    ·have w:x∉r.members:=by simpa using w
     have p:r.acks.all (fun m=>decide (m∈r.members))=false:=by
      simp only[List.all_eq_false];exact⟨x,List.mem_of_getElem? O,by simpa using w⟩
     simp only[go_sem,bU,p]
    ·have w:x∈r.members:=by simpa using w
     simp only[go_sem,h1,z,J]
     refine⟨i+1,by omega,by omega,by rw[Ym h ok.a],fun m hm=>?_⟩
     rw[YH O] at hm
     rcases GV.1 hm with hm|hm
     ·exact I m hm
     ·have:m=x:=by simpa using hm
      rw[this];exact w
   ·have h:=Yr hi h
    rw[oc h] at I
    have p:r.acks.all (fun m=>decide (m∈r.members))=true:=by simpa using I
    clear I
    simp only[go_sem,h1,z]
    repeat' (first|refine nP (fun h=>?_) (fun h=>?_)<;>simp only[go_sem,h,h1,z]|refine hJ (fun h=>?_) (fun h=>?_)<;>simp only[go_sem,h,h1,z,o,y]|refine bL (fun h=>?_) (fun h=>?_)<;>simp only[go_sem,h,h1,z,u,y,E])
    all_goals (simp_all only [bU,GI,Bool.not_eq_false',GR,kw,ky,Bool.or_false,jI,G0,GK,Gm,Gl,cond_true,cond_false];done)
theorem yH:∀{l m:List Int},l.Nodup->(∀x∈l,x∈m)->l.length<=m.length
 |[],m,_,_=>by simp
 |a::l,m,h,hs=>by
  rw[mt] at h;have o:=hs a (ni ..);have h1:=yH (l:=l) (m:=m.erase a) h.2 (fun x p=>by
   have j:x≠a:=fun e=>h.1 (e▸p);exact (List.mem_erase_of_ne j).2 (hs x (nh _ p)))
  have q:=List.length_erase_of_mem o;have u:0<m.length:=List.length_pos_of_mem o;simp only[List.length_cons];omega
def C1 {r:dL} (hm:cP r.members) (j:cP r.acks) (p:∀x∈r.acks,x∈r.members):decide ((r.acks.length:Int)<(r.members.length:Int))=!iC r:=by
 cases h:iC r with
 |true=>
  have:∀x∈r.members,x∈r.acks:=by simpa [iC] using h
  have:=yH hm.2.2 this;simp;omega
 |false=>
  obtain⟨x,q,o⟩:∃x,x∈r.members/\x∉r.acks:=by simpa [iC] using h
  have:=yH (l:=x::r.acks) (m:=r.members) (mt.2 ⟨o,j.2.2⟩) (fun y hy=>by
   rcases GN.1 hy with rfl|hy
   ·exact q
   ·exact p y hy)
  simp only[List.length_cons] at this;simp;omega
def gf (r:dL):Bool:=
 !(decide (r.id<1)||(decide (255<r.id)||(!jw r.view 0||(!jw r.n 0||(!decide (cP r.members)||!decide (cP r.acks)))))) &&
  (!(decide ((0:Int)<(r.members.length:Int))&&!decide (r.id∈r.members))&&(!(r.acks.any (fun m=>!decide (m∈r.members))) &&
  (bif Yn r then decide (r.id∈r.acks)&&(decide ((r.acks.length:Int)<(r.members.length:Int))||decide (r.base=r.text)) else decide ((r.acks.length:Int)=0)&&decide (r.base=r.text))))
def DA {n:Int}:(!decide (n=0)&&!jw n 1)=!jw n 0:=by
 simp only[jw];by_cases h1:n=0
 ·subst h1;decide
 ·have:decide (1<=n)=decide (0<=n):=GU.2 (by omega);simp[h1,this]
def Cy (r:dL):gf r=bU r:=by
 unfold gf bU;rw[DA,DA];have j:(!(r.acks.any (fun m=>!decide (m∈r.members))))=r.acks.all (fun m=>decide (m∈r.members)):=by
  rw[List.all_eq_not_any_not]
 rw[j];by_cases hm:cP r.members
 ·by_cases o:cP r.acks
  ·cases p:r.acks.all (fun m=>decide (m∈r.members)) with
   |true=>rw[C1 hm o (by simpa using p)];simp only[GK]
   |false=>simp
  ·simp[o]
 ·simp[hm]
def Ax:=HpC 66 F66 uv
def Mc (h:Ax Pg) (r:dL) (m:Int) (ok:r.Ok):K' Pg 66 [iz m,.cptr (YB r) 0]=some (.bool (!decide (m∈r.members))):=by
 obtain⟨h,o⟩:=h;have j:=uY o r.members m ok.m;simp only[Yi] at j;refine aA h rfl ?_;simp only[go_sem,j]
def wj:=HpC 39 F39<|HpA Av<|HpA Aw<|HpA uv<|HpA Ax<|HpA uw<|wn
def B5 (h:wj Pg) (r:dL) (ok:r.Ok):K' Pg 39 [.agg (YB r)]=some (.bool (bU r)):=by
 rw[<-Cy];obtain⟨h,E,w,z,H,I,J⟩:=h;have B:=fun x y=>Mb E x y;have o:=B8 w r.members ok.m;have j:=B8 w r.acks ok.a;have q:=fun x=>uY z r.members x ok.m;have p:=fun x=>uY z r.acks x ok.a;have D:=B9 J r;have u:=yA I r.acks 66 [.cptr (YB r) 0] (fun m=>!decide (m∈r.members)) ok.a rfl (fun x _=>Mc H r x ok);simp only[Yi,YB] at B o j q p D u;refine aA h rfl ?_;simp only[go_sem]
 repeat' (first|refine nP (fun h=>?_) (fun h=>?_)<;>simp only[go_sem,h,B,o,j,List.all_cons,List.all_nil]|refine hJ (fun h=>?_) (fun h=>?_)<;>simp only[go_sem,h,q,u]|refine bL (fun h=>?_) (fun h=>?_)<;>simp only[go_sem,h,p,D,u])
 all_goals (simp_all only [gf,GI,Bool.not_eq_false',GR,kw,Bool.or_true,ky,Bool.or_false,jI,G0,GK,Gm,Gl,cond_true,cond_false];done)
end Sg
