/- StoreOrder, at every input: proved over a checked abstract run of the translated code; no condition. A part. -/
import Derived.Test.YtofkbkonceifeaaGreatDoorChecked
import Derived.Lib.LaidU8
import Derived.Lib.OthersKept
import Derived.Laws.RangeAny
import Derived.WalkKit
import Derived.BigCall
import Derived.Test.YtofkbkonceifeaaGreatDoorG2
set_option linter.unusedSimpArgs false
set_option linter.unusedVariables false
set_option linter.constructorNameAsVariable false
set_option linter.defProp false
set_option maxRecDepth 100000
set_option maxHeartbeats 4000000
namespace Sg
abbrev PgT:=Nat→Option Fn
theorem inc64q {i:Nat} (h:i<9223372036854775807):_root_.Go.IntKind.i64.wrap ((i:Int)+1)=((i+1:Nat):Int):=by rw[JiG (by omega) (by omega)];omega
end Sg
namespace Sg
def look {α:Type}:List (Nat×α)→Nat→Option α
 |[],_=>none
 |(k,a)::l,n=>if k=n then some a else look l n
def plQ:Option Nat→Bool
 |some j=>decide (j<3000)
 |none=>true
def rfQ (F:F) (j:Nat):Bool:=F.own.isNone&&nsC j F.body&&decide (j<1000)
def okTab (P:Go.Program) (cx:Cx) (tab:List (Nat×Fn)):List (Nat×Fn)→Bool
 |[]=>true
 |(k,.code F)::l=>okF P cx (look tab) (cx.fm k) F&&okTab P cx tab l
 |(k,.codeR F j)::l=>okF P cx (look tab) (cx.fm k) F&&rfQ F j&&okTab P cx tab l
 |(_,.prim o _)::l=>plQ o&&okTab P cx tab l
theorem look_mem {α:Type}:∀{l:List (Nat×α)} {n:Nat} {a:α},look l n=some a→(n,a)∈l
 |(k,b)::l,n,a,h=>by
  simp only[look] at h;split at h
  ·rename_i e;subst e;simp only[Ga] at h;subst h;exact GR
  ·exact G5 _ (look_mem h)
 |[],n,a,h=>by simp[look] at h
def fnQ (P:Go.Program) (cx:Cx) (tab:List (Nat×Fn)) (k:Nat):Fn→Prop
 |.code F=>okF P cx (look tab) (cx.fm k) F=true
 |.codeR F j=>okF P cx (look tab) (cx.fm k) F=true∧rfQ F j=true
 |.prim o _=>plQ o=true
theorem YdC {P:Go.Program} {cx:Cx} {tab:List (Nat×Fn)}:∀{l:List (Nat×Fn)},okTab P cx tab l=true→∀k f,(k,f)∈l→fnQ P cx tab k f
 |(k',g)::l,h,k,f,hm=>by
  have h2:fnQ P cx tab k' g∧okTab P cx tab l=true:=by
   cases g<;>simp only[okTab,Gc] at h
   ·exact h
   ·exact h
   ·exact⟨h.1,h.2⟩
  simp only[GI,Gl] at hm;rcases hm with ⟨rfl,rfl⟩|hm
  ·exact h2.1
  ·exact YdC h2.2 k f hm
 |[],h,k,f,hm=>by simp at hm
theorem tab_sound {P:Go.Program} {cx:Cx} {tab:List (Nat×Fn)} (hm:P.follows .mixedOrders=true) (hok:okTab P cx tab tab=true)
  (hprim:∀f own p,look tab f=some (.prim own p)→∀args r,p args=some r→Ctr P cx own f args r)
  (hins:∀f z p,z<1000→look tab f=some (.prim (some (1000+z)) p)→∃tS el,InsC P (cx.fm f) z tS el) (hdel:∀f z p,look tab f=some (.prim (some (2000+z)) p)→DelC P (cx.fm f) z)
  (n f:Nat) (args:List V) (r:V) (h:Jm (look tab) n f args=some r):Ctr P cx (ownOf (look tab) f) f args r:=
 (J0 hm (fun f F hf=>YdC hok f _ (look_mem hf)) hprim hins hdel (fun f F k hf=>by
  have h1:fnQ P cx tab f (.codeR F k):=YdC hok f _ (look_mem hf);have h2:=h1.2;simp only[rfQ,Gc,Gas] at h2;exact⟨h1.1,h2.1.1,h2.1.2⟩) (fun f own p hf k hk ho=>by
  have h1:fnQ P cx tab f (.prim own p):=YdC hok f _ (look_mem hf);subst ho;simp only[fnQ,plQ,Gi] at h1;omega) n f args r h).1
end Sg
namespace Sg
open _root_.Go (IntKind BinOp UnOp)
@[go_sem] abbrev z_0 : List V := [.str [],.str []]
@[go_sem] abbrev z_1 : List V := [.int .i64 0,.int .i64 0,.int .i64 0,.bool false,.str []]
@[go_sem] abbrev z_2 : List V := [.int .i64 0,.int .i64 0,.int .i64 0]
@[go_sem] abbrev z_3 : List V := [.int .i64 0,.int .i64 0,.int .i64 0,.int .i64 0,.int .i64 0,.int .i64 0,.bool false,.str [],.slice 2 [],.str [],.bool false]
@[go_sem] abbrev z_4 : List V := [.int .i64 0,.int .i64 0,.slice 1 [],.int .i64 0,.str [],.str [],.slice 1 []]
@[go_sem] abbrev z_5 : List V := [.int .i64 0,.int .i64 0,.int .i64 0,.int .i64 0,.int .i64 0,.slice 1 [],.str []]
@[go_sem] abbrev z_6 : List V := [.str [],.slice 5 []]
@[go_sem] abbrev z_7 : List V := [.slice 17 [],.int .i64 0,.int .i64 0,.int .i64 0,.int .i64 0]
@[go_sem] abbrev z_8 : List V := [.int .i64 0,.int .i64 0,.int .i64 0,.int .i64 0,.bool false,.str [],.slice 2 [],.str [],.bool false]
@[go_sem] abbrev z_9 : List V := [.int .i64 0,.int .i64 0,.str [],.str [],.int .i64 0,.slice 2 [],.int .i64 0,.int .i64 0,.int .i64 0,.int .i64 0,.int .i64 0,.int .i64 0,.slice 11 [],.int .i64 0,.int .i64 0,.int .i64 0,.int .i64 0]
@[go_sem] abbrev z_10 : List V := [.str [],.str [],.int .i64 0,.int .i64 0,.int .i64 0]
@[go_sem] abbrev z_11 : List V := [.int .i64 0,.slice 9 []]
@[go_sem] abbrev z_12 : List V := [.int .i64 0,.int .i64 0,.int .i64 0,.slice 1 [],.int .i64 0,.str [],.str [],.slice 1 [],.slice 36 []]
@[go_sem] abbrev z_13 : List V := [.int .i64 0,.nslice 9]
@[go_sem] abbrev z_14 : List V := [.str [],.bool false]
@[go_sem] abbrev z_15 : List V := [.nslice 17,.int .i64 0,.int .i64 0,.int .i64 0,.int .i64 0]
@[go_sem] abbrev z_16 : List V := [.int .i64 0,.int .i64 0,.int .i64 0,.int .i64 0,.int .i64 0,.int .i64 0,.int .i64 0,.int .i64 0,.int .i64 0,.int .i64 0,.int .i64 0,.int .i64 0,.str [],.int .i64 0,.int .i64 0,.int .i64 0,.str [],.str [],.bool false,.str [],.int .i64 0,.int .i64 0,.int .i64 0,.str [],.int .i64 0,.int .i64 0,.int .i64 0,.int .i64 0,.int .i64 0,.bool false,.str [],.slice 2 [],.str [],.bool false,.slice 5 [],.slice 1 []]
@[go_sem] abbrev z_17 : List V := [.int .i64 0,.int .i64 0,.int .i64 0,.str [],.str [],.bool false,.str [],.int .i64 0,.int .i64 0,.int .i64 0,.str [],.int .i64 0]
@[go_sem] abbrev z_18 : List V := [.str [],.nslice 5]
@[go_sem] abbrev z_19 : List V := [.int .i64 0,.int .i64 0,.str [],.str [],.int .i64 0,.nslice 2,.int .i64 0,.int .i64 0,.int .i64 0,.int .i64 0,.int .i64 0,.int .i64 0,.nslice 11,.int .i64 0,.int .i64 0,.int .i64 0,.int .i64 0]
def c142 : C := rs 0 (qB 2 0<|qF 4<|qe) <| rs 5 (qb 2 2<|qc 167<|ya<|qm 1<|qc 168<|za 2<|ya<|qm 1<|qr 2 0<|qr 2 1<|qC 169 (ls [7,9,11])<|za 6<|qv 4<|qe) .ret
def F142 : F := mF 2 [.t 4] none c142
attribute [go_sem] c142 F142
def c167 : C := rs 0 (qB 1 0<|qF 2<|qe) <| i1 3 (qr 1 0<|qh true<|qk .gtr 0<|ya<|qr 1 0<|qc 168<|qn<|zA 4<|qe) 12 (rs 0 (qF 2<|qe) .ret) <| i1 13 (qr 1 1<|qh true<|qK .eql 0<|qe) 16 (rs 0 (qT 2<|qe) .ret) <| rs 17 (qr 1 1<|qc 168<|ya<|qr 1 0<|qr 1 1<|qC 187 (ls [5,7])<|qk .eql (-1)<|za 3<|qv 2<|qe) .ret
def F167 : F := mF 1 [.t 2] none c167
attribute [go_sem] c167 F167
def l168_0 : C := .loop [] [] [] [] (lq 13 (qm 0<|qh true<|qK .gtr 0<|qe) 15 0 <| bk 1 (rs 17 (qm 0<|qc 188<|q2 16 (.mov (.l 1))<|qx 0<|qy 1<|qw 3<|qw 4<|qe) <| i1 21 (qm 3<|qc 189<|qN<|qe) 23 (rs 0 (qF 2<|qe) .ret) <| r1 24 (qm 0<|qm 4<|q1 (.sl true 0 (.l 0) (some (.l 1)) none)<|qv 0<|qe)))
def c168 : C := rs 0 (qF 2<|qe) <| i1 5 (qm 0<|qh true<|qk .eql 0<|yo<|qm 0<|qh true<|qk .gtr 16<|zO 3<|qe) 12 (rs 0 (qF 2<|qe) .ret) <| sq (bk 0 l168_0) <| rs 0 (qT 2<|qe) .ret
def F168 : F := mF 1 [.t 2] none c168
attribute [go_sem] c168 F168
def c169 : C := rs 0 (qF 6<|qe) <| rs 7 (qm 0<|qm 1<|qd 187<|qk .geq 0<|ya<|qm 2<|qh true<|qk .eql 0<|yo<|qm 0<|qm 2<|qd 187<|qk .lss 0<|y1 4<|qo 8<|za 4<|qv 6<|qe) .ret
def F169 : F := mF 3 [.t 6] none c169
attribute [go_sem] c169 F169
def c171 : C := rs 0 (qB 2 0<|qF 4<|qe) <| rs 5 (qb 2 2<|qc 186<|ya<|qm 1<|qc 170<|za 2<|ya<|qr 2 0<|qm 1<|qd 192<|qk .leq 0<|za 6<|ya<|qr 2 1<|q1 (.bin .eql (.l 15) (.c (.str [])))<|yo<|qm 1<|qr 2 1<|qC 192 (ls [18,20])<|qk .lss 0<|y1 13<|qo 17<|za 13<|qv 4<|qe) .ret
def F171 : F := mF 2 [.t 4] none c171
attribute [go_sem] c171 F171
def c178 : C := rs 0 (qB 2 0<|qG 4 z_0<|qG 5 z_0<|qz 6 0<|qe) <| sq (bk 0 (rs 8 (qb 2 2<|qc 186<|qn<|yo<|qm 1<|qc 170<|qn<|zo 3<|qv 7<|qe) <| cd 7 (rs 16 (q1 (.build z_0 [])<|q1 (.build z_0 [])<|qt 4 2 0<|qt 5 2 1<|qz 6 1<|qe) .ret) <| rs 19 (qm 1<|qr 2 0<|qq .eql 0<|yo<|qb 2 2<|qm 1<|qd 171<|qn<|zo 4<|qv 18<|qe) <| cd 18 (rs 29 (q1 (.build z_0 [])<|q1 (.build z_0 [])<|qt 4 2 0<|qt 5 2 1<|qz 6 9<|qe) .ret) .skip)) <| rt 31 (qr 2 0<|qm 1<|q1 (.build z_0 [(0,1,.l 1),(1,1,.l 2)])<|qm 1<|qr 2 1<|q1 (.build z_0 [(0,1,.l 4),(1,1,.l 6)])<|qt 4 2 3<|qt 5 2 7<|qz 6 0<|qe) .ret
def F178 : F := mF 2 [.cell 4 (some 2),.cell 5 (some 2),.t 6] none c178
attribute [go_sem] c178 F178
def c186 : C := rs 0 (qB 1 0<|qF 2<|qe) <| i1 3 (qr 1 0<|q1 (.bin .neq (.l 1) (.c (.str [])))<|ya<|qr 1 0<|qc 170<|qn<|zA 3<|qe) 11 (rs 0 (qF 2<|qe) .ret) <| rs 12 (qr 1 1<|q1 (.bin .eql (.l 1) (.c (.str [])))<|yo<|qr 1 1<|qc 170<|ya<|qr 1 0<|qr 1 1<|qC 192 (ls [9,11])<|qk .lss 0<|y0 3<|qa 7<|zo 3<|qv 2<|qe) .ret
def F186 : F := mF 1 [.t 2] none c186
attribute [go_sem] c186 F186
def l187_0 : C := .loop [] [] [] [] (lq 12 (qm 7<|qm 5<|qh false<|qq .lss 0<|ya<|qm 7<|qm 6<|qh false<|qq .lss 5<|zA 4<|qe) 21 0 <| sq (bk 1 (i2 24 (qm 5<|qm 7<|qi 1<|qj<|qm 6<|qm 7<|qi 1<|qj<|qQ .lss 3<|qe) 32 (rs 0 (qz 4 (-1)<|qe) .ret) <| rt 33 (qm 5<|qm 7<|qi 1<|qj<|qm 6<|qm 7<|qi 1<|qj<|qQ .gtr 3<|qe) <| cd 41 (rs 0 (qz 4 1<|qe) .ret) .skip)) <| r1 22 (qm 7<|qk .add 1<|qv 7<|qe))
def c187 : C := rs 0 (qz 4 0<|qe) <| rs 8 (qm 0<|qc 195<|qm 1<|qc 195<|qV 5 1<|qw 6<|qe) <| sq (rs 0 (qz 7 0<|qe) <| bk 0 l187_0) <| i1 42 (qm 5<|qh false<|qm 6<|qh false<|qQ .lss 1<|qe) 46 (rs 0 (qz 4 (-1)<|qe) .ret) <| i1 47 (qm 5<|qh false<|qm 6<|qh false<|qQ .gtr 1<|qe) 51 (rs 0 (qz 4 1<|qe) .ret) <| rs 0 (qz 4 0<|qe) .ret
def F187 : F := mF 2 [.t 4] none c187
attribute [go_sem] c187 F187
def l188_0 : C := .loop [] [] [] [] (lq 46 (qm 7<|qm 5<|qQ .lss 0<|qe) 48 0 <| sq (bk 1 (i1 51 (qm 0<|qm 7<|q1 (.idx (.l 0) (.l 1))<|q1 (.bin .lss (.l 2) (.c (.int .u8 128)))<|yo<|qm 0<|qm 7<|q1 (.idx (.l 5) (.l 6))<|q1 (.bin .gtr (.l 7) (.c (.int .u8 191)))<|zO 4<|qe) 60 (rs 0 (qz 2 (-1)<|qz 3 1<|qe) .ret) <| r1 61 (qm 4<|q1 (.bin .mul (ci 64) (.l 0))<|qm 0<|qm 7<|q1 (.idx (.l 2) (.l 3))<|q1 (.conv (.int .i64) (.l 4))<|qq .add 1<|qk .sub 128<|qv 4<|qe))) <| r1 49 (qm 7<|qk .add 1<|qv 7<|qe))
def c188 : C := rs 0 (qz 2 0<|qz 3 0<|qe) <| rs 8 (qm 0<|q1 (.idx (.l 0) (ci 0))<|q1 (.conv (.int .i64) (.l 1))<|qv 4<|qe) <| i1 11 (qm 4<|qK .lss 128<|qe) 12 (rs 13 (qm 4<|qv 2<|qz 3 1<|qe) .ret) <| rs 0 (qz 5 0<|qz 6 0<|qe) <| sq (rs 14 (qm 4<|qk .geq 194<|ya<|qm 4<|qk .lss 224<|zA 2<|qe) <| cd 19 (r1 20 (qm 4<|qk .sub 192<|qz 5 2<|qz 6 128<|qV 4 1<|qe)) <| rs 22 (qm 4<|qk .geq 224<|ya<|qm 4<|qk .lss 240<|zA 2<|qe) <| cd 27 (r1 28 (qm 4<|qk .sub 224<|qz 5 3<|qz 6 2048<|qV 4 1<|qe)) <| rs 30 (qm 4<|qk .geq 240<|ya<|qm 4<|qk .lss 245<|zA 2<|qe) <| cd 35 (r1 36 (qm 4<|qk .sub 240<|qz 5 4<|qz 6 65536<|qV 4 1<|qe)) .skip) <| i1 38 (qm 5<|qk .eql 0<|yo<|qm 0<|qh true<|qm 5<|qq .lss 4<|zO 2<|qe) 45 (rs 0 (qz 2 (-1)<|qz 3 1<|qe) .ret) <| sq (rs 0 (qz 7 1<|qe) <| bk 0 l188_0) <| i1 69 (qm 4<|qm 6<|qq .lss 0<|yo<|qm 4<|qk .gtr 1114111<|zo 3<|yo<|qm 4<|qk .geq 55296<|ya<|qm 4<|qk .lss 57344<|y0 7<|qa 10<|zO 7<|qe) 83 (rs 0 (qz 2 (-1)<|qz 3 1<|qe) .ret) <| rs 84 (qm 4<|qm 5<|qw 2<|qw 3<|qe) .ret
def F188 : F := mF 1 [.t 2,.t 3] none c188
attribute [go_sem] c188 F188
def c189 : C := rs 0 (qF 2<|qe) <| rs 3 (qm 0<|qk .gtr 32<|ya<|qm 0<|qk .neq 127<|za 2<|ya<|qm 0<|qk .lss 128<|yo<|qm 0<|qk .gtr 159<|y1 6<|qo 9<|za 6<|qv 2<|qe) .ret
def F189 : F := mF 1 [.t 2] none c189
attribute [go_sem] c189 F189
def c191 : C := rs 0 (qF 4<|qe) <| rs 5 (qm 0<|q1 (.bin .geq (.l 0) (.c (.int .i32 33)))<|ya<|qm 0<|q1 (.bin .lss (.l 3) (.c (.int .i32 127)))<|yo<|qm 0<|q1 (.bin .gtr (.l 6) (.c (.int .i32 159)))<|y1 2<|qo 5<|za 2<|ya<|qm 0<|q1 (.bin .neq (.l 11) (.c (.int .i32 65533)))<|yo<|qm 1<|qk .eql 3<|y1 10<|qo 13<|za 10<|qv 4<|qe) .ret
def F191 : F := mF 2 [.t 4] none c191
attribute [go_sem] c191 F191
def l192_0 : C := .loop [] [] [] [] (lq 9 (qm 0<|q1 (.bin .neq (.l 0) (.c (.str [])))<|ya<|qm 1<|q1 (.bin .neq (.l 3) (.c (.str [])))<|zA 2<|qe) 14 0 <| bk 1 (rs 16 (qm 0<|qc 190<|q2 15 (.mov (.l 1))<|qx 0<|qy 1<|qw 5<|qw 6<|qe) <| rs 21 (qm 1<|qc 190<|q2 20 (.mov (.l 1))<|qx 0<|qy 1<|qw 7<|qw 8<|qe) <| sq (bk 2 (rs 26 (qm 5<|qm 7<|qq .lss 0<|qv 25<|qe) <| cd 25 (rs 0 (qz 4 (-1)<|qe) .ret) <| rs 30 (qm 5<|qm 7<|qq .gtr 0<|qv 29<|qe) <| cd 29 (rs 0 (qz 4 1<|qe) .ret) .skip)) <| r2 33 (qm 0<|qm 6<|q1 (.sl true 0 (.l 0) (some (.l 1)) none)<|qm 1<|qm 8<|q1 (.sl true 0 (.l 3) (some (.l 4)) none)<|qV 0 2<|qw 1<|qe)))
def c192 : C := rs 0 (qz 4 0<|qe) <| sq (bk 0 l192_0) <| sq (bk 3 (rs 40 (qm 0<|q1 (.bin .neq (.l 0) (.c (.str [])))<|qv 39<|qe) <| cd 39 (rs 0 (qz 4 1<|qe) .ret) <| rs 43 (qm 1<|q1 (.bin .neq (.l 0) (.c (.str [])))<|qv 42<|qe) <| cd 42 (rs 0 (qz 4 (-1)<|qe) .ret) .skip)) <| rs 0 (qz 4 0<|qe) .ret
def F192 : F := mF 2 [.t 4] none c192
attribute [go_sem] c192 F192
def l195_0 : C := .loop [] [] [] [] (lq 6 (qm 0<|qh true<|qK .gtr 0<|qe) 8 0 <| bk 1 (rs 10 (qm 0<|qc 188<|q2 9 (.mov (.l 1))<|qx 0<|qy 1<|qw 4<|qw 5<|qe) <| i1 14 (qm 4<|qK .lss 0<|qe) 15 (r1 0 (qz 4 65533<|qe)) <| rs 16 (qm 3<|qm 4<|q1 (.mks 1 1 [.int .i64 0] [(0,.l 1)])<|q1 (.app 3 1 (.l 0) (.l 2))<|qv 3<|qe) <| r1 20 (qm 0<|qm 5<|q1 (.sl true 0 (.l 0) (some (.l 1)) none)<|qv 0<|qe)))
def c195 : C := rs 0 (qS 2 1<|qe) <| rs 3 (q3 (.mko 1)<|qe) <| sq (bk 0 l195_0) <| rs 23 (qm 3<|qv 2<|qe) .ret
def F195 : F := mF 1 [.t 2] none c195
attribute [go_sem] c195 F195
def c3 : C := rs 0 (qB 3 1<|qS 4 5<|qz 5 0<|qe) <| sq (bk 0 (rs 7 (qm 0<|qc 7<|qn<|yo<|qb 3 5<|qc 22<|qn<|zo 3<|qv 6<|qe) <| cd 6 (rs 0 (qS 4 5<|qz 5 1<|qe) .ret) <| rt 16 (qm 0<|qh false<|qk .gtr 0<|ya<|qm 0<|qm 0<|qh false<|qk .sub 1<|q1 (.iad 5 (.l 4) (.l 7))<|qg 0<|qJ 3<|qR 3 0 3<|qC 15 (ls [10,12])<|qk .geq 0<|za 3<|qv 15<|qe) <| cd 15 (rs 0 (qS 4 5<|qz 5 9<|qe) .ret) <| rs 33 (qm 0<|qh false<|qk .eql 64<|qv 32<|qe) <| cd 32 (rs 0 (qS 4 5<|qz 5 6<|qe) .ret) .skip)) <| rt 36 (qm 0<|q1 (.call (.k 23) .no (some 0) [.l 0])<|qb 3 5<|q1 (.mks 5 1 z_1 [(0,.l 2)])<|q1 (.app 37 5 (.l 1) (.l 3))<|qv 4<|qz 5 0<|qe) .ret
def F3 : F := mF 2 [.t 4,.t 5] none c3
attribute [go_sem] c3 F3
def l4_0 : C := .loop [] [] [] [] (lq 7 (qm 3<|qm 0<|qh false<|qQ .lss 0<|qe) 10 0 <| sq (bk 1 (i1 13 (qm 0<|qm 3<|qi 5<|qJ 5<|qc 5<|qN<|qe) 18 (rs 0 (qF 2<|qe) .ret) <| rt 19 (qm 3<|qk .gtr 0<|ya<|qm 0<|qm 3<|qk .sub 1<|q1 (.iad 5 (.l 3) (.l 5))<|qg 0<|qJ 3<|qm 0<|qm 3<|qi 5<|qg 0<|qJ 3<|qC 6 (ls [8,13])<|qn<|zA 2<|qe) <| cd 35 (rs 0 (qF 2<|qe) .ret) .skip)) <| r1 11 (qm 3<|qk .add 1<|qv 3<|qe))
def c4 : C := rs 0 (qF 2<|qe) <| i1 4 (qm 0<|qh false<|qK .gtr 64<|qe) 6 (rs 0 (qF 2<|qe) .ret) <| sq (rs 0 (qz 3 0<|qe) <| bk 0 l4_0) <| rs 0 (qT 2<|qe) .ret
def F4 : F := mF 1 [.t 2] none c4
attribute [go_sem] c4 F4
def c5 : C := rs 0 (qB 1 0<|qF 2<|qe) <| i1 3 (qr 1 3<|ya<|qr 1 4<|qh true<|qk .gtr 0<|zA 2<|qe) 10 (rs 0 (qF 2<|qe) .ret) <| rs 11 (qR 1 0 3<|qc 24<|ya<|qr 1 4<|qh true<|qk .lss 17<|za 3<|qv 2<|qe) .ret
def F5 : F := mF 1 [.t 2] none c5
attribute [go_sem] c5 F5
def c6 : C := rs 0 (qB 2 0<|qB 3 1<|qF 4<|qe) <| i1 5 (qr 2 0<|qr 3 0<|qQ .neq 1<|qe) 9 (rs 10 (qr 2 0<|qr 3 0<|qq .lss 1<|qv 4<|qe) .ret) <| i1 15 (qr 2 1<|qr 3 1<|qQ .neq 1<|qe) 19 (rs 20 (qr 2 1<|qr 3 1<|qq .lss 1<|qv 4<|qe) .ret) <| rs 25 (qr 2 2<|qr 3 2<|qq .lss 1<|qv 4<|qe) .ret
def F6 : F := mF 2 [.t 4] none c6
attribute [go_sem] c6 F6
def l7_0 : C := .loop [] [] [4] [] (rs 8 (q3 (.bin .lss (.g 7) (.g 6))<|qe) <| sq (cd 8 .skip <| .exit 0) <| sq (bk 1 (rs 9 (qm 7<|q1 (.iad 5 (.g 5) (.g 7))<|qJ 5<|qG 4 z_1<|qV 3 0<|qs 4 5 3 2<|qe) <| rt 12 (qb 4 5<|qc 22<|qn<|yo<|qm 3<|qk .gtr 0<|ya<|qm 0<|qm 3<|qk .sub 1<|q1 (.iad 5 (.l 7) (.l 9))<|qg 0<|qJ 3<|qR 4 0 3<|qC 15 (ls [12,14])<|qk .geq 0<|y0 3<|qa 6<|zO 3<|qe) <| cd 30 (rs 0 (qF 2<|qe) .ret) .skip)) <| r1 31 (q1 (.bin .add (.g 7) (ci 1))<|qv 7<|qe))
def c7 : C := rs 0 (qF 2<|qe) <| sq (rs 5 (q3 (.mov (.g 0))<|qH false<|q3 (.mov (ci 0))<|qe) <| bk 0 l7_0) <| rs 32 (qm 0<|qh false<|qk .leq 64<|qv 2<|qe) .ret
def F7 : F := mF 1 [.t 2] none c7
attribute [go_sem] c7 F7
def c10 : C := rs 0 (qB 3 1<|qG 4 z_1<|qF 5<|qe) <| i1 7 (qm 0<|qc 7<|qN<|qe) 9 (rs 10 (q1 (.build z_1 [])<|qt 4 5 0<|qF 5<|qe) .ret) <| rs 11 (qm 0<|qb 3 3<|qd 25<|qv 6<|qe) <| i1 14 (qm 6<|qK .eql 0<|qe) 15 (rs 16 (q1 (.build z_1 [])<|qt 4 5 0<|qF 5<|qe) .ret) <| rs 17 (qm 0<|qm 6<|qk .sub 1<|q1 (.iad 5 (.l 0) (.l 2))<|qJ 5<|qt 4 5 4<|qT 5<|qe) .ret
def F10 : F := mF 2 [.cell 4 (some 5),.t 5] none c10
attribute [go_sem] c10 F10
def c12 : C := rs 0 (qB 3 1<|qE 4<|qF 5<|qe) <| rs 9 (qm 0<|qb 3 3<|qd 10<|q2 8 (.mov (.l 2))<|qx 0<|qy 1<|qG 6 z_1<|qs 6 5 6 4<|qV 7 5<|qe) <| rt 14 (qr 6 4<|qm 7<|ya<|qr 6 3<|qn<|za 3<|qV 4 1<|qw 5<|qe) .ret
def F12 : F := mF 2 [.t 4,.t 5] none c12
attribute [go_sem] c12 F12
def c15 : C := rs 0 (qB 2 0<|qB 3 1<|qz 4 0<|qe) <| rt 5 (qr 2 0<|qr 3 0<|qC 26 (ls [1,3])<|qr 2 1<|qr 3 1<|qC 26 (ls [6,8])<|qr 2 2<|qr 3 2<|qC 26 (ls [11,13])<|q1 (.mks 1 3 [.int .i64 0] [(0,.l 4),(1,.l 9),(2,.l 14)])<|qc 27<|qv 4<|qe) .ret
def F15 : F := mF 2 [.t 4] none c15
attribute [go_sem] c15 F15
def c17 : C := rs 0 (qB 3 1<|qS 4 5<|qe) <| i1 6 (qm 0<|qc 7<|qN<|qe) 8 (rs 0 (qS 4 5<|qe) .ret) <| rs 9 (qm 0<|qb 3 3<|qd 25<|qv 5<|qe) <| i1 12 (qm 5<|qk .gtr 0<|ya<|qm 0<|qm 5<|qk .sub 1<|q1 (.iad 5 (.l 3) (.l 5))<|qg 3<|qj<|qn<|zA 2<|qe) 22 (r1 23 (qm 5<|qk .sub 1<|qv 5<|qe)) <| rs 25 (qm 0<|qm 5<|q1 (.sl false 5 (.l 0) (some (.l 1)) none)<|qc 23<|qv 4<|qe) .ret
def F17 : F := mF 2 [.t 4] none c17
attribute [go_sem] c17 F17
def c21 : C := rs 0 (qB 2 0<|qB 3 1<|qG 4 z_2<|qe) <| i1 5 (qb 2 3<|qb 3 3<|qd 15<|qK .lss 0<|qe) 8 (rs 9 (qb 3 3<|qt 4 3 0<|qe) .ret) <| rs 10 (qb 2 3<|qt 4 3 0<|qe) .ret
def F21 : F := mF 2 [.cell 4 (some 3)] none c21
attribute [go_sem] c21 F21
def c22 : C := rs 0 (qB 1 0<|qF 2<|qe) <| rs 3 (qR 1 0 3<|qc 28<|ya<|qr 1 4<|qh true<|qk .leq 16<|za 3<|ya<|qr 1 3<|qn<|yo<|qr 1 4<|q1 (.bin .eql (.l 15) (.c (.str [])))<|y1 9<|qo 13<|za 9<|qv 2<|qe) .ret
def F22 : F := mF 1 [.t 2] none c22
attribute [go_sem] c22 F22
def c24 : C := rs 0 (qB 1 0<|qF 2<|qe) <| rs 3 (qr 1 0<|qk .geq 0<|ya<|qr 1 0<|qk .leq 1099511627776<|za 3<|ya<|qr 1 1<|qk .geq 0<|za 8<|ya<|qr 1 1<|qk .leq 1048576<|za 13<|ya<|qr 1 2<|qk .geq 0<|za 18<|ya<|qr 1 2<|qk .leq 255<|za 23<|qv 2<|qe) .ret
def F24 : F := mF 1 [.t 2] none c24
attribute [go_sem] c24 F24
def c25 : C := rs 0 (qB 3 1<|qz 4 0<|qe) <| rs 8 (qm 0<|qb 3 3<|qC 29 [.l 0,.l 1,.f 30]<|q2 7 (.mov (.l 2))<|qx 0<|qy 1<|qw 5<|qw 6<|qe) <| i1 13 (q3 (.mov (.g 6))<|qe) 13 (r1 14 (qm 5<|qk .add 1<|qv 5<|qe)) <| rs 16 (qm 5<|qv 4<|qe) .ret
def F25 : F := mF 2 [.t 4] none c25
attribute [go_sem] c25 F25
def c26 : C := rs 0 (qz 4 0<|qe) <| rs 7 (qm 0<|qc 31<|qv 5<|qe) <| rs 9 (qm 1<|qc 31<|qv 6<|qe) <| i1 11 (q3 (.mov (.g 5))<|qe) 11 (i1 12 (q3 (.mov (.g 6))<|qe) 12 (rs 0 (qz 4 0<|qe) .ret) <| rs 0 (qz 4 (-1)<|qe) .ret) <| i1 13 (q3 (.mov (.g 6))<|qe) 13 (rs 0 (qz 4 1<|qe) .ret) <| i1 14 (qm 0<|qm 1<|qQ .lss 0<|qe) 16 (rs 0 (qz 4 (-1)<|qe) .ret) <| i1 17 (qm 0<|qm 1<|qQ .gtr 0<|qe) 19 (rs 0 (qz 4 1<|qe) .ret) <| rs 0 (qz 4 0<|qe) .ret
def F26 : F := mF 2 [.t 4] none c26
attribute [go_sem] c26 F26
def l27_0 : C := .loop [] [] [] [] (rs 9 (q3 (.bin .lss (.g 8) (.g 7))<|qe) <| sq (cd 9 .skip <| .exit 0) <| sq (bk 1 (rs 10 (q1 (.iad 1 (.g 6) (.g 8))<|qj<|qv 5<|qe) <| rs 12 (qm 5<|qm 3<|qQ .neq 0<|qe) <| cd 14 (rs 15 (qm 5<|qv 2<|qe) .ret) .skip)) <| r1 16 (q1 (.bin .add (.g 8) (ci 1))<|qv 8<|qe))
def c27 : C := rs 0 (qz 2 0<|qe) <| rs 0 (qz 3 0<|qe) <| sq (rs 6 (q3 (.mov (.g 0))<|qH false<|q3 (.mov (ci 0))<|qe) <| bk 0 l27_0) <| rs 17 (qm 3<|qv 2<|qe) .ret
def F27 : F := mF 1 [.t 2] none c27
attribute [go_sem] c27 F27
def c28 : C := rs 0 (qB 1 0<|qF 2<|qe) <| rs 3 (qr 1 0<|qC 32 [.l 1,ci 1099511627776]<|ya<|qr 1 1<|qC 32 [.l 5,ci 1048576]<|za 3<|ya<|qr 1 2<|qC 32 [.l 10,ci 255]<|za 8<|qv 2<|qe) .ret
def F28 : F := mF 1 [.t 2] none c28
attribute [go_sem] c28 F28
def l29_0 : C := .loop [] [] [] [] (lq 15 (qm 9<|qm 10<|qQ .lss 0<|qe) 17 0 <| bk 1 (rs 18 (qm 9<|qm 10<|qq .add 0<|q1 (.conv (.int .u64) (.l 2))<|q1 (.sh .shr (.l 3) (.c (.int .u64 1)))<|q1 (.conv (.int .i64) (.l 4))<|qv 11<|qe) <| rt 24 (qm 2<|qm 0<|qm 11<|qi 5<|qJ 5<|qb 4 3<|q1 (.call (.v (.l 0)) .no none [.l 4,.l 5])<|qK .lss 0<|qe) <| cd 31 (r1 32 (qm 11<|qk .add 1<|qv 9<|qe)) <| r1 34 (qm 11<|qv 10<|qe)))
def c29 : C := rs 0 (qB 4 1<|qz 6 0<|qF 7<|qe) <| rs 12 (qm 0<|qh false<|qv 8<|qe) <| rs 14 (qm 8<|qz 9 0<|qw 10<|qe) <| sq (bk 0 l29_0) <| rt 35 (qm 9<|qm 9<|qm 8<|qq .lss 1<|ya<|qm 2<|qm 0<|qm 9<|qi 5<|qJ 5<|qb 4 3<|q1 (.call (.v (.l 5)) .no none [.l 9,.l 10])<|qk .eql 0<|za 4<|qV 6 0<|qw 7<|qe) .ret
def F29 : F := mF 3 [.t 6,.t 7] none c29
attribute [go_sem] c29 F29
def c30 : C := rs 0 (qB 2 0<|qB 3 1<|qz 4 0<|qe) <| rs 5 (qR 2 0 3<|qb 3 3<|qd 15<|qv 4<|qe) .ret
def F30 : F := mF 2 [.t 4] none c30
attribute [go_sem] c30 F30
def c31 : C := rs 0 (qF 2<|qe) <| rs 3 (qm 0<|qm 0<|qq .neq 0<|qv 2<|qe) .ret
def F31 : F := mF 1 [.t 2] none c31
attribute [go_sem] c31 F31
def c32 : C := rs 0 (qF 4<|qe) <| rs 5 (qm 0<|qk .geq 0<|ya<|qm 0<|qm 1<|qq .leq 3<|za 2<|qv 4<|qe) .ret
def F32 : F := mF 2 [.t 4] none c32
attribute [go_sem] c32 F32
def l80_0 : C := .loop [] [] [] [] (lq 7 (qm 3<|qm 0<|qh false<|qQ .lss 0<|qe) 10 0 <| sq (bk 1 (i1 13 (qm 0<|qm 3<|qi 11<|qg 0<|qj<|qc 95<|qn<|yo<|qm 0<|qm 3<|qi 11<|qg 1<|qj<|qc 95<|qn<|zo 7<|yo<|qm 0<|qm 3<|qi 11<|qg 2<|qJ 9<|qc 96<|qn<|zO 16<|qe) 37 (rs 0 (qF 2<|qe) .ret) <| rt 38 (qm 3<|qk .gtr 0<|ya<|qm 0<|qm 3<|qk .sub 1<|q1 (.iad 11 (.l 3) (.l 5))<|qg 0<|qj<|qm 0<|qm 3<|qi 11<|qg 0<|qj<|qq .geq 8<|zA 2<|qe) <| cd 53 (rs 0 (qF 2<|qe) .ret) .skip)) <| r1 11 (qm 3<|qk .add 1<|qv 3<|qe))
def c80 : C := rs 0 (qF 2<|qe) <| i1 4 (qm 0<|qh false<|qK .gtr 8<|qe) 6 (rs 0 (qF 2<|qe) .ret) <| sq (rs 0 (qz 3 0<|qe) <| bk 0 l80_0) <| rs 0 (qT 2<|qe) .ret
def F80 : F := mF 1 [.t 2] none c80
attribute [go_sem] c80 F80
def l81_0 : C := .loop [] [] [5] [] (rs 9 (q3 (.bin .lss (.g 8) (.g 7))<|qe) <| sq (cd 9 .skip <| .exit 0) <| sq (bk 1 (rs 10 (q1 (.iad 11 (.g 6) (.g 8))<|qJ 11<|qG 5 z_3<|qs 5 11 2 1<|qe) <| i1 12 (qr 5 0<|qm 3<|qq .leq 1<|yo<|qr 5 0<|qc 97<|qn<|zo 4<|yo<|qr 5 1<|qc 97<|qn<|zo 10<|yo<|qR 5 2 9<|qc 98<|qn<|zO 16<|qe) 33 (rs 0 (qF 2<|qe) .ret) <| r1 34 (qr 5 0<|qv 3<|qe))) <| r1 36 (q1 (.bin .add (.g 8) (ci 1))<|qv 8<|qe))
def c81 : C := rs 0 (qF 2<|qe) <| rs 0 (qz 3 0<|qe) <| sq (rs 6 (q3 (.mov (.g 0))<|qH false<|q3 (.mov (ci 0))<|qe) <| bk 0 l81_0) <| rs 37 (qm 0<|qh false<|qk .leq 8<|qv 2<|qe) .ret
def F81 : F := mF 1 [.t 2] none c81
attribute [go_sem] c81 F81
def c82 : C := rs 0 (qz 6 0<|qe) <| i1 9 (qm 0<|qc 81<|qn<|yo<|qm 1<|qc 97<|qn<|zo 3<|yo<|qm 2<|qc 97<|qn<|zO 8<|qe) 21 (rs 0 (qz 6 0<|qe) .ret) <| rs 23 (qm 0<|qm 1<|qd 84<|q2 22 (.mov (.l 2))<|qx 0<|qy 1<|qG 7 z_3<|qs 7 11 6 4<|qV 8 5<|qe) <| sq (bk 0 (rs 29 (qm 8<|qn<|yo<|qm 2<|qr 7 1<|qq .gtr 3<|zo 2<|qv 28<|qe) <| cd 28 (rs 0 (qz 6 1<|qe) .ret) <| rs 38 (qm 2<|qr 7 1<|qq .eql 0<|qv 37<|qe) <| cd 37 (rs 0 (qz 6 2<|qe) .ret) .skip)) <| rs 0 (qz 6 3<|qe) .ret
def F82 : F := mF 3 [.t 6] none c82
attribute [go_sem] c82 F82
def c84 : C := rs 0 (qG 4 z_3<|qF 5<|qe) <| i1 8 (qm 0<|qc 81<|qN<|qe) 10 (rs 11 (q1 (.build z_3 [])<|qt 4 11 0<|qF 5<|qe) .ret) <| rs 13 (qm 0<|qm 1<|qd 100<|q2 12 (.mov (.l 2))<|qx 0<|qy 1<|qw 6<|qw 7<|qe) <| i1 18 (qm 7<|qN<|qe) 19 (rs 20 (q1 (.build z_3 [])<|qt 4 11 0<|qF 5<|qe) .ret) <| rs 21 (qm 0<|qm 6<|qi 11<|qJ 11<|qt 4 11 3<|qT 5<|qe) .ret
def F84 : F := mF 2 [.cell 4 (some 11),.t 5] none c84
attribute [go_sem] c84 F84
def c88 : C := rs 0 (qB 3 1<|qS 4 11<|qz 5 0<|qe) <| i1 9 (qm 0<|qc 81<|qn<|yo<|qb 3 11<|q1 (.mks 11 1 z_3 [(0,.l 4)])<|qc 81<|qn<|zO 3<|qe) 17 (rs 0 (qS 4 11<|qz 5 1<|qe) .ret) <| rs 19 (qm 0<|qr 3 0<|qC 100 (ls [0,2])<|q2 18 (.mov (.l 3))<|qx 0<|qy 1<|qw 6<|qw 7<|qe) <| sq (bk 0 (rt 26 (qm 7<|ya<|qm 0<|qm 6<|qi 11<|qg 1<|qj<|qr 3 1<|qq .geq 6<|za 1<|qv 25<|qe) <| cd 25 (rs 0 (qS 4 11<|qz 5 9<|qe) .ret) <| rs 38 (qm 7<|qn<|ya<|qm 0<|qh false<|qk .eql 8<|za 2<|qv 37<|qe) <| cd 37 (rs 0 (qS 4 11<|qz 5 6<|qe) .ret) .skip)) <| rs 45 (qm 0<|q1 (.call (.k 102) .no (some 0) [.l 0])<|qv 8<|qe) <| i1 47 (q3 (.mov (.g 7))<|qe) 47 (rs 48 (qm 8<|qm 6<|qb 3 11<|q1 (.iad 11 (.l 0) (.l 1))<|q5 (.store (.e 46) 11 (.l 3) (.l 2))<|qe) <| rs 52 (qm 8<|qv 4<|qz 5 0<|qe) .ret) <| rs 53 (qm 8<|qm 6<|qb 3 11<|q1 (.mks 11 1 z_3 [(0,.l 2)])<|q1 (.ins 103 46 11 (.l 0) (.l 1) (.l 3))<|qv 4<|qz 5 0<|qe) .ret
def F88 : F := mF 2 [.t 4,.t 5] none c88
attribute [go_sem] c88 F88
def l91_0 : C := .loop [] [] [] [] (lq 15 (qm 0<|qh false<|qk .gtr 0<|yo<|qm 1<|qh false<|qk .gtr 0<|zO 3<|qe) 22 0 <| bk 1 (bk 2 (rt 34 (qm 1<|qh false<|qk .eql 0<|yo<|qm 0<|qh false<|qk .gtr 0<|ya<|qm 0<|q1 (.iad 11 (.l 8) (ci 0))<|qg 0<|qj<|qm 1<|q1 (.iad 11 (.l 12) (ci 0))<|qg 0<|qj<|qq .lss 11<|y0 3<|qa 7<|zo 3<|qv 33<|qe) <| cd 33 (r2 53 (qm 6<|qm 0<|q1 (.iad 11 (.l 1) (ci 0))<|qJ 11<|q1 (.mks 11 1 z_3 [(0,.l 3)])<|q1 (.app 6 11 (.l 0) (.l 4))<|qm 0<|q1 (.sl false 11 (.l 6) (some (ci 1)) none)<|qV 6 5<|qw 0<|qe)) <| rt 62 (qm 0<|qh false<|qk .eql 0<|yo<|qm 1<|q1 (.iad 11 (.l 4) (ci 0))<|qg 0<|qj<|qm 0<|q1 (.iad 11 (.l 8) (ci 0))<|qg 0<|qj<|qq .lss 7<|zo 3<|qv 61<|qe) <| cd 61 (r2 76 (qm 6<|qm 1<|q1 (.iad 11 (.l 1) (ci 0))<|qJ 11<|q1 (.mks 11 1 z_3 [(0,.l 3)])<|q1 (.app 6 11 (.l 0) (.l 4))<|qm 1<|q1 (.sl false 11 (.l 6) (some (ci 1)) none)<|qV 6 5<|qw 1<|qe)) <| rt 85 (qm 0<|q1 (.iad 11 (.l 0) (ci 0))<|qg 1<|qj<|qm 1<|q1 (.iad 11 (.l 4) (ci 0))<|qg 1<|qj<|qq .geq 3<|qv 84<|qe) <| cd 84 (r2 94 (qm 6<|qm 0<|q1 (.iad 11 (.l 1) (ci 0))<|qJ 11<|q1 (.mks 11 1 z_3 [(0,.l 3)])<|q1 (.app 6 11 (.l 0) (.l 4))<|qm 0<|q1 (.sl false 11 (.l 6) (some (ci 1)) none)<|qm 1<|q1 (.sl false 11 (.l 8) (some (ci 1)) none)<|qV 6 5<|qV 0 7<|qV 1 9<|qe)) <| r2 23 (qm 6<|qm 1<|q1 (.iad 11 (.l 1) (ci 0))<|qJ 11<|q1 (.mks 11 1 z_3 [(0,.l 3)])<|q1 (.app 6 11 (.l 0) (.l 4))<|qm 0<|q1 (.sl false 11 (.l 6) (some (ci 1)) none)<|qm 1<|q1 (.sl false 11 (.l 8) (some (ci 1)) none)<|qV 6 5<|qV 0 7<|qV 1 9<|qe))))
def c91 : C := rs 0 (qS 4 11<|qz 5 0<|qe) <| i1 7 (qm 0<|qc 81<|qn<|yo<|qm 1<|qc 81<|qn<|zO 3<|qe) 14 (rs 0 (qS 4 11<|qz 5 1<|qe) .ret) <| rs 6 (q3 (.mko 11)<|qe) <| sq (bk 0 l91_0) <| i1 104 (qm 6<|qh false<|qK .gtr 8<|qe) 106 (rs 0 (qS 4 11<|qz 5 6<|qe) .ret) <| rs 107 (qm 6<|qv 4<|qz 5 0<|qe) .ret
def F91 : F := mF 2 [.t 4,.t 5] none c91
attribute [go_sem] c91 F91
def c95 : C := rs 0 (qF 2<|qe) <| rs 3 (qm 0<|qk .gtr 0<|ya<|qm 0<|qk .leq 1099511627776<|za 2<|qv 2<|qe) .ret
def F95 : F := mF 1 [.t 2] none c95
attribute [go_sem] c95 F95
def c96 : C := rs 0 (qB 1 0<|qF 2<|qe) <| i1 3 (qr 1 0<|qk .lss 0<|yo<|qr 1 0<|qk .gtr 16<|zo 3<|yo<|qr 1 5<|qh true<|qk .gtr 16<|zo 8<|yo<|qr 1 6<|qh false<|qk .gtr 0<|zo 14<|yo<|qr 1 7<|qh true<|qk .gtr 0<|zo 20<|yo<|qr 1 8<|zO 26<|qe) 32 (rs 0 (qF 2<|qe) .ret) <| rs 33 (qR 1 1 3<|qc 24<|qv 2<|qe) .ret
def F96 : F := mF 1 [.t 2] none c96
attribute [go_sem] c96 F96
def c97 : C := rs 0 (qF 2<|qe) <| rs 3 (qm 0<|qk .geq 1<|ya<|qm 0<|qk .leq 1099511627776<|za 2<|qv 2<|qe) .ret
def F97 : F := mF 1 [.t 2] none c97
attribute [go_sem] c97 F97
def c98 : C := rs 0 (qB 1 0<|qF 2<|qe) <| rs 3 (qr 1 0<|qk .geq 0<|ya<|qr 1 0<|qk .leq 16<|za 3<|ya<|qR 1 1 3<|qc 28<|za 8<|ya<|qr 1 5<|qh true<|qk .leq 16<|za 13<|ya<|qr 1 6<|qh false<|qk .eql 0<|za 19<|ya<|qr 1 7<|q1 (.bin .eql (.l 27) (.c (.str [])))<|za 25<|ya<|qr 1 8<|qn<|za 30<|qv 2<|qe) .ret
def F98 : F := mF 1 [.t 2] none c98
attribute [go_sem] c98 F98
def l99_0 : C := .loop [] [] [] [] (lq 6 (qm 5<|qm 0<|qh false<|qQ .lss 0<|qe) 9 0 <| sq (bk 1 (rs 12 (qm 0<|qm 5<|qi 11<|qg 0<|qj<|qm 1<|qQ .eql 4<|qe) <| cd 18 (rs 19 (qm 0<|qm 5<|qi 11<|qg 1<|qj<|qv 4<|qe) .ret) .skip)) <| r1 10 (qm 5<|qk .add 1<|qv 5<|qe))
def c99 : C := rs 0 (qz 4 0<|qe) <| sq (rs 0 (qz 5 0<|qe) <| bk 0 l99_0) <| rs 0 (qz 4 0<|qe) .ret
def F99 : F := mF 2 [.t 4] none c99
attribute [go_sem] c99 F99
def c100 : C := rs 0 (qB 3 1<|qz 4 0<|qF 5<|qe) <| rs 7 (qm 0<|q1 (.fn 105 [.g 3] [3])<|qd 106<|qv 6<|qe) <| i1 10 (qm 6<|qK .lss 0<|qe) 11 (rs 12 (qm 0<|qh false<|qv 4<|qF 5<|qe) .ret) <| rt 14 (qm 6<|qm 0<|qm 6<|qi 11<|qg 0<|qj<|q1 (.load (.v 3) none (.g 3))<|qq .eql 5<|qV 4 0<|qw 5<|qe) .ret
def F100 : F := mF 2 [.t 4,.t 5] none c100
attribute [go_sem] c100 F100
def c105 : C := rs 0 (qB 2 0<|qF 3<|qe) <| rs 4 (qr 2 0<|q1 (.load (.c) none (.g 1))<|qq .geq 1<|qv 3<|qe) .ret
def F105 : F := mF 2 [.t 3] none c105
attribute [go_sem] c105 F105
def l106_0 : C := .loop [] [] [] [] (rs 9 (q3 (.bin .lss (.g 8) (.g 7))<|qe) <| sq (cd 9 .skip <| .exit 0) <| sq (bk 1 (rs 10 (qm 8<|qv 5<|qe) <| rs 11 (qm 1<|qm 0<|qm 5<|qi 11<|qJ 11<|q3 (.call (.v (.l 0)) .no none [.l 4])<|qe) <| cd 16 (rs 17 (qm 5<|qv 4<|qe) .ret) .skip)) <| r1 18 (q1 (.bin .add (.g 8) (ci 1))<|qv 8<|qe))
def c106 : C := rs 0 (qz 4 0<|qe) <| sq (rs 6 (qm 0<|qH false<|q3 (.mov (ci 0))<|qe) <| bk 0 l106_0) <| rs 0 (qz 4 (-1)<|qe) .ret
def F106 : F := mF 2 [.t 4] none c106
attribute [go_sem] c106 F106
def c39 : C := rs 0 (qB 1 0<|qF 2<|qe) <| i1 3 (qr 1 0<|qk .lss 1<|yo<|qr 1 0<|qk .gtr 255<|zo 3<|yo<|qr 1 1<|qC 63 [.l 10,ci 0]<|qn<|zo 8<|yo<|qr 1 3<|qC 63 [.l 16,ci 0]<|qn<|zo 14<|yo<|qr 1 2<|qc 64<|qn<|zo 20<|yo<|qr 1 6<|qc 64<|qn<|zO 26<|qe) 34 (rs 0 (qF 2<|qe) .ret) <| i1 35 (qr 1 2<|qh false<|qk .gtr 0<|ya<|qr 1 2<|qr 1 0<|qC 65 (ls [6,8])<|qn<|zA 4<|qe) 46 (rs 0 (qF 2<|qe) .ret) <| i1 47 (qr 1 6<|q1 (.fn 66 [.g 1] [1])<|q3 (.call (.k 67) .no none [.l 1,.l 2])<|qe) 50 (rs 0 (qF 2<|qe) .ret) <| i1 51 (qb 1 7<|qc 68<|qN<|qe) 53 (rs 54 (qr 1 6<|qh false<|qk .eql 0<|ya<|qr 1 4<|qr 1 5<|qq .eql 6<|za 4<|qv 2<|qe) .ret) <| rs 65 (qr 1 6<|qr 1 0<|qC 65 (ls [1,3])<|ya<|qr 1 6<|qh false<|qr 1 2<|qh false<|qq .lss 8<|yo<|qr 1 4<|qr 1 5<|qq .eql 15<|y1 5<|qo 13<|za 5<|qv 2<|qe) .ret
def F39 : F := mF 1 [.t 2] none c39
attribute [go_sem] c39 F39
def c40 : C := rs 0 (qB 1 0<|qF 2<|qe) <| rs 3 (qb 1 7<|qc 39<|ya<|qb 1 7<|qc 68<|za 2<|qv 2<|qe) .ret
def F40 : F := mF 1 [.t 2] none c40
attribute [go_sem] c40 F40
def c41 : C := rs 0 (qB 1 0<|qF 2<|qe) <| rs 3 (qb 1 7<|qc 40<|ya<|qr 1 6<|qh false<|qr 1 2<|qh false<|qq .lss 5<|za 2<|qv 2<|qe) .ret
def F41 : F := mF 1 [.t 2] none c41
attribute [go_sem] c41 F41
def c43 : C := rs 0 (qG 6 z_4<|qz 7 0<|qe) <| rs 9 (qm 0<|qm 1<|qc 69<|qm 2<|qm 2<|q1 (.build z_4 [(0,1,.l 0),(1,1,.c (.int .i64 1)),(2,1,.l 2),(3,1,.c (.int .i64 1)),(4,1,.l 3),(5,1,.l 4)])<|qG 8 z_4<|qs 8 7 6 5<|qe) <| i1 15 (qb 8 7<|q3 (.call (.k 68) .no none [.l 0])<|qe) 16 (r1 17 (qm 1<|qc 69<|qf 8 6<|qs 8 1 2 1<|qe)) <| i1 20 (qm 1<|qh false<|qk .eql 0<|yo<|qb 8 7<|qc 39<|qn<|zO 3<|qe) 27 (rs 28 (q1 (.build z_4 [])<|qt 6 7 0<|qz 7 1<|qe) .ret) <| rs 29 (qb 8 7<|qt 6 7 0<|qz 7 0<|qe) .ret
def F43 : F := mF 3 [.cell 6 (some 7),.t 7] none c43
attribute [go_sem] c43 F43
def c47 : C := rs 0 (qB 2 0<|qG 4 z_4<|qS 5 7<|qz 6 0<|qe) <| sq (bk 0 (rs 8 (qb 2 7<|qc 39<|qn<|qv 7<|qe) <| cd 7 (rs 11 (q1 (.build z_4 [])<|qt 4 7 0<|qS 5 7<|qz 6 1<|qe) .ret) <| rs 13 (qb 2 7<|qc 68<|qn<|qv 12<|qe) <| cd 12 (rs 16 (q1 (.build z_4 [])<|qt 4 7 0<|qS 5 7<|qz 6 10<|qe) .ret) <| rs 18 (qb 2 7<|qc 41<|qv 17<|qe) <| cd 17 (rs 20 (q1 (.build z_4 [])<|qt 4 7 0<|qS 5 7<|qz 6 11<|qe) .ret) <| rs 22 (qr 2 3<|qk .eql 1099511627776<|qv 21<|qe) <| cd 21 (rs 25 (q1 (.build z_4 [])<|qt 4 7 0<|qS 5 7<|qz 6 6<|qe) .ret) .skip)) <| rs 26 (qr 2 3<|qk .add 1<|qf 2 3<|qs 2 1 3 2<|qe) <| rs 30 (qm 1<|qr 2 0<|q1 (.mks 1 1 [.int .i64 0] [(0,.l 2)])<|qf 2 5<|qs 2 1 4 0<|qf 2 6<|qs 2 1 6 3<|qe) <| rt 36 (qb 2 7<|qc 71<|qb 2 7<|qc 72<|qt 4 7 1<|qw 5<|qz 6 0<|qe) .ret
def F47 : F := mF 2 [.cell 4 (some 7),.t 5,.t 6] none c47
attribute [go_sem] c47 F47
def c51 : C := rs 0 (qB 1 0<|qS 2 7<|qe) <| i1 3 (qb 1 7<|qc 41<|qN<|qe) 5 (rs 0 (qS 2 7<|qe) .ret) <| rs 6 (qb 1 7<|qc 72<|qv 2<|qe) .ret
def F51 : F := mF 1 [.t 2] none c51
attribute [go_sem] c51 F51
def l52_0 : C := .loop [] [] [] [] (lq 5 (qm 4<|qr 1 2<|qh false<|qQ .lss 0<|qe) 9 0 <| sq (bk 1 (rt 12 (qr 1 6<|qr 1 2<|qm 4<|qi 1<|qj<|qC 62 (ls [1,6])<|qN<|qe) <| cd 20 (r2 21 (qm 3<|qr 1 0<|qr 1 2<|qm 4<|qi 1<|qj<|qr 1 1<|qr 1 3<|qr 1 2<|qr 1 5<|q1 (.build z_5 [(0,1,.c (.int .i64 1)),(1,1,.l 2),(2,1,.l 7),(3,1,.l 9),(4,1,.l 11),(5,1,.l 13),(6,1,.l 15)])<|q1 (.mks 7 1 z_5 [(0,.l 16)])<|q1 (.app 3 7 (.l 0) (.l 17))<|qv 3<|qe)) .skip)) <| r1 10 (qm 4<|qk .add 1<|qv 4<|qe))
def c52 : C := rs 0 (qB 1 0<|qS 2 7<|qe) <| rs 3 (q3 (.mko 7)<|qe) <| sq (rs 0 (qz 4 0<|qe) <| bk 0 l52_0) <| rs 40 (qm 3<|qv 2<|qe) .ret
def F52 : F := mF 1 [.t 2] none c52
attribute [go_sem] c52 F52
def c54 : C := rs 0 (qB 3 0<|qG 6 z_4<|qS 7 7<|qz 8 0<|qe) <| i1 9 (qb 3 7<|qc 39<|qn<|yo<|qm 2<|qr 3 0<|qr 3 0<|qC 73 (ls [4,6,8])<|qn<|zo 3<|yo<|qm 1<|qC 63 [.l 13,ci 1]<|qn<|zO 12<|qe) 25 (rs 26 (q1 (.build z_4 [])<|qt 6 7 0<|qS 7 7<|qz 8 1<|qe) .ret) <| sq (bk 0 (rs 28 (qm 1<|qr 3 1<|qq .eql 0<|ya<|qb 3 7<|qc 68<|za 4<|qv 27<|qe) <| cd 27 (rt 36 (qb 3 7<|qb 3 7<|qc 72<|qt 6 7 0<|qw 7<|qz 8 0<|qe) .ret) <| rs 40 (qm 1<|qr 3 1<|qk .add 1<|qq .neq 0<|yo<|qr 3 2<|qh false<|qk .eql 0<|zo 5<|qv 39<|qe) <| cd 39 (rs 51 (q1 (.build z_4 [])<|qt 6 7 0<|qS 7 7<|qz 8 10<|qe) .ret) <| rs 53 (qr 3 3<|qk .eql 1099511627776<|qv 52<|qe) <| cd 52 (rs 56 (q1 (.build z_4 [])<|qt 6 7 0<|qS 7 7<|qz 8 6<|qe) .ret) .skip)) <| rt 57 (qm 1<|qm 2<|qc 69<|qr 3 5<|qr 3 0<|q1 (.mks 1 1 [.int .i64 0] [(0,.l 6)])<|qf 3 1<|qs 3 1 8 0<|qf 3 2<|qs 3 1 10 2<|qf 3 4<|qs 3 1 12 4<|qf 3 6<|qs 3 1 14 7<|qe) <| rs 69 (qr 3 3<|qk .add 1<|qf 3 3<|qs 3 1 3 2<|qe) <| rt 73 (qb 3 7<|qb 3 7<|qc 72<|qt 6 7 0<|qw 7<|qz 8 0<|qe) .ret
def F54 : F := mF 3 [.cell 6 (some 7),.t 7,.t 8] none c54
attribute [go_sem] c54 F54
def c57 : C := rs 0 (qB 2 0<|qB 3 1<|qG 4 z_4<|qS 5 7<|qe) <| i1 6 (qb 2 7<|q1 (.call (.k 39) .borrow none [.l 0])<|qn<|yo<|qr 3 2<|qr 2 0<|qq .neq 5<|zO 3<|qe) 15 (rs 16 (qb 2 7<|qt 4 7 0<|qS 5 7<|qe) .ret) <| sq (rs 17 (qf 3 0<|q3 (.load (.v 3) none (.l 0))<|qe) <| bk 0 (rs 20 (q1 (.bin .eql (.g 18) (ci 1))<|qv 19<|qe) <| cd 19 (rs 21 (qb 2 7<|qb 3 7<|q1 (.call (.k 74) .freeze none [.l 0,.l 1])<|qx 0<|qy 1<|qt 4 7 3<|qw 5<|qe) .ret) <| rs 27 (q1 (.bin .eql (.g 18) (ci 2))<|qv 26<|qe) <| cd 26 (rs 28 (qb 2 7<|q1 (.call (.k 68) .borrow none [.l 0])<|ya<|qr 3 3<|qr 2 1<|qq .eql 4<|za 2<|ya<|qr 3 4<|qr 2 3<|qq .eql 11<|za 9<|ya<|qr 2 2<|qr 3 1<|q1 (.call (.k 65) .borrow none [.l 18,.l 20])<|za 16<|ya<|qr 2 6<|qr 3 1<|q1 (.call (.k 65) .borrow none [.l 25,.l 27])<|qn<|zA 23<|qe) <| cd 58 (rt 59 (qr 2 6<|q1 (.call (.k 69) .freeze (some 0) [.l 1])<|qr 3 1<|q1 (.mks 1 1 [.int .i64 0] [(0,.l 4)])<|q1 (.app 61 1 (.l 2) (.l 5))<|qf 2 6<|qs 2 1 7 6<|qe) <| r1 67 (qb 2 7<|q1 (.call (.k 71) .freeze none [.l 0])<|qt 2 7 1<|qe)) .skip) <| rs 70 (q1 (.bin .eql (.g 18) (ci 3))<|qv 69<|qe) <| cd 69 (rs 71 (qr 3 3<|qr 2 1<|qQ .gtr 1<|qe) <| cd 75 (r1 76 (qr 2 5<|qf 2 2<|q5 (.store (.v 2) 1 (.l 2) (.c (.slice 1 [])))<|qf 2 6<|q5 (.store (.v 2) 1 (.l 4) (.c (.slice 1 [])))<|qf 2 4<|qs 2 1 6 1<|qe)) .skip) .skip)) <| rs 81 (qb 2 7<|qt 4 7 0<|qS 5 7<|qe) .ret
def F57 : F := mF 2 [.cell 4 (some 7),.t 5] none c57
attribute [go_sem] c57 F57
def l61_1 : C := .loop [] [] [] [] (lq 26 (qm 4<|qm 3<|qQ .lss 0<|qe) 28 2 <| sq (bk 3 (rt 31 (qm 0<|qm 4<|qi 1<|qj<|qm 0<|qm 3<|qi 1<|qj<|qQ .eql 3<|qe) <| cd 39 (rs 0 (qF 2<|qe) .ret) .skip)) <| r1 29 (qm 4<|qk .add 1<|qv 4<|qe))
def l61_0 : C := .loop [] [] [] [] (lq 8 (qm 3<|qm 0<|qh false<|qQ .lss 0<|qe) 11 0 <| sq (bk 1 (i1 14 (qm 0<|qm 3<|qi 1<|qj<|qk .lss 1<|yo<|qm 0<|qm 3<|qi 1<|qj<|qk .gtr 255<|zO 5<|qe) 25 (rs 0 (qF 2<|qe) .ret) <| rs 0 (qz 4 0<|qe) <| bk 2 l61_1)) <| r1 12 (qm 3<|qk .add 1<|qv 3<|qe))
def c61 : C := rs 0 (qF 2<|qe) <| i1 5 (qm 0<|qh false<|qK .gtr 8<|qe) 7 (rs 0 (qF 2<|qe) .ret) <| sq (rs 0 (qz 3 0<|qe) <| bk 0 l61_0) <| rs 0 (qT 2<|qe) .ret
def F61 : F := mF 1 [.t 2] none c61
attribute [go_sem] c61 F61
def l62_0 : C := .loop [] [] [] [] (lq 6 (qm 5<|qm 0<|qh false<|qQ .lss 0<|qe) 9 0 <| sq (bk 1 (rs 12 (qm 0<|qm 5<|qi 1<|qj<|qm 1<|qQ .eql 3<|qe) <| cd 17 (rs 0 (qT 4<|qe) .ret) .skip)) <| r1 10 (qm 5<|qk .add 1<|qv 5<|qe))
def c62 : C := rs 0 (qF 4<|qe) <| sq (rs 0 (qz 5 0<|qe) <| bk 0 l62_0) <| rs 0 (qF 4<|qe) .ret
def F62 : F := mF 2 [.t 4] none c62
attribute [go_sem] c62 F62
def c63 : C := rs 0 (qF 4<|qe) <| rs 5 (qm 0<|qm 1<|qq .geq 0<|ya<|qm 0<|qk .leq 1099511627776<|za 3<|qv 4<|qe) .ret
def F63 : F := mF 2 [.t 4] none c63
attribute [go_sem] c63 F63
def l64_0 : C := .loop [] [] [] [] (rs 8 (q3 (.bin .lss (.g 7) (.g 6))<|qe) <| sq (cd 8 .skip <| .exit 0) <| sq (bk 1 (rs 9 (qm 7<|q1 (.iad 1 (.g 5) (.g 7))<|qj<|qV 3 0<|qw 4<|qe) <| rs 12 (qm 4<|qk .lss 1<|yo<|qm 4<|qk .gtr 255<|zo 2<|yo<|qm 0<|qm 3<|q1 (.sl false 1 (.l 7) none (some (.l 8)))<|qm 4<|qd 65<|zO 6<|qe) <| cd 24 (rs 0 (qF 2<|qe) .ret) .skip)) <| r1 25 (q1 (.bin .add (.g 7) (ci 1))<|qv 7<|qe))
def c64 : C := rs 0 (qF 2<|qe) <| sq (rs 5 (q3 (.mov (.g 0))<|qH false<|q3 (.mov (ci 0))<|qe) <| bk 0 l64_0) <| rs 26 (qm 0<|qh false<|qk .leq 8<|qv 2<|qe) .ret
def F64 : F := mF 1 [.t 2] none c64
attribute [go_sem] c64 F64
def c65 : C := rs 0 (qF 4<|qe) <| rs 5 (qm 0<|qm 1<|qd 75<|qk .geq 0<|qv 4<|qe) .ret
def F65 : F := mF 2 [.t 4] none c65
attribute [go_sem] c65 F65
def c66 : C := rs 0 (qF 3<|qe) <| rs 4 (qf 1 2<|qj<|qm 0<|qd 65<|qn<|qv 3<|qe) .ret
def F66 : F := mF 2 [.t 3] none c66
attribute [go_sem] c66 F66
def c67 : C := rs 0 (qF 4<|qe) <| rs 5 (qm 0<|qm 1<|qd 76<|qk .geq 0<|qv 4<|qe) .ret
def F67 : F := mF 2 [.t 4] none c67
attribute [go_sem] c67 F67
def c68 : C := rs 0 (qB 1 0<|qF 2<|qe) <| rt 3 (qr 1 2<|qh false<|qk .gtr 0<|ya<|qr 1 2<|q1 (.iad 1 (.l 6) (ci 0))<|qj<|qr 1 0<|qq .eql 8<|za 4<|qv 2<|qe) .ret
def F68 : F := mF 1 [.t 2] none c68
attribute [go_sem] c68 F68
def c71 : C := rs 0 (qB 1 0<|qG 2 z_4<|qe) <| i1 3 (qr 1 6<|qh false<|qr 1 2<|qh false<|qQ .eql 2<|qe) 9 (r1 10 (qr 1 5<|qf 1 4<|qs 1 1 2 1<|qe)) <| rs 13 (qb 1 7<|qt 2 7 0<|qe) .ret
def F71 : F := mF 1 [.cell 2 (some 7)] none c71
attribute [go_sem] c71 F71
def l72_0 : C := .loop [] [] [] [] (rs 10 (q3 (.bin .lss (.g 9) (.g 8))<|qe) <| sq (cd 10 .skip <| .exit 0) <| sq (bk 1 (rs 11 (q1 (.iad 1 (.g 7) (.g 9))<|qj<|qv 5<|qe) <| rs 13 (qr 1 6<|qm 5<|qd 65<|qN<|qe) <| cd 17 (r2 18 (qm 3<|qr 1 0<|qm 5<|qr 1 1<|qr 1 3<|qr 1 2<|qc 69<|qr 1 5<|q1 (.build z_5 [(0,1,.c (.int .i64 1)),(1,1,.l 2),(2,1,.l 3),(3,1,.l 5),(4,1,.l 7),(5,1,.l 10),(6,1,.l 12)])<|q1 (.mks 7 1 z_5 [(0,.l 13)])<|q1 (.app 3 7 (.l 0) (.l 14))<|qv 3<|qe)) .skip)) <| r1 34 (q1 (.bin .add (.g 9) (ci 1))<|qv 9<|qe))
def c72 : C := rs 0 (qB 1 0<|qS 2 7<|qe) <| rs 3 (q3 (.mko 7)<|qe) <| sq (rs 6 (qf 1 2<|q3 (.load (.v 1) none (.l 0))<|qH false<|q3 (.mov (ci 0))<|qe) <| bk 0 l72_0) <| rs 35 (qm 3<|qv 2<|qe) .ret
def F72 : F := mF 1 [.t 2] none c72
attribute [go_sem] c72 F72
def c73 : C := rs 0 (qF 6<|qe) <| rs 7 (qm 0<|qh false<|qk .gtr 0<|ya<|qm 0<|qc 64<|za 3<|ya<|qm 0<|qm 1<|qd 65<|za 7<|ya<|qm 0<|q1 (.iad 1 (.l 13) (ci 0))<|qj<|qm 2<|qq .eql 15<|za 12<|qv 6<|qe) .ret
def F73 : F := mF 3 [.t 6] none c73
attribute [go_sem] c73 F73
def c74 : C := rs 0 (qB 2 0<|qB 3 1<|qG 4 z_4<|qS 5 7<|qe) <| i1 7 (qr 3 1<|qr 2 0<|qq .eql 1<|yo<|qr 3 5<|qr 2 0<|qr 3 1<|qC 73 (ls [7,9,11])<|qn<|zo 5<|yo<|qr 3 3<|qC 63 [.l 17,ci 1]<|qn<|zo 15<|yo<|qr 3 4<|qC 63 [.l 23,ci 1]<|qn<|zO 21<|qe) 33 (rs 34 (qb 2 7<|qt 4 7 0<|qS 5 7<|qe) .ret) <| i1 35 (qr 3 3<|qr 2 1<|qQ .lss 1<|qe) 39 (rt 40 (qb 2 7<|qr 2 0<|qr 3 1<|qr 2 1<|q1 (.build z_5 [(0,1,.c (.int .i64 3)),(1,1,.l 2),(2,1,.l 4),(3,1,.l 6)])<|q1 (.mks 7 1 z_5 [(0,.l 7)])<|qt 4 7 0<|qw 5<|qe) .ret) <| rs 49 (qr 3 3<|qr 2 1<|qq .eql 1<|qv 6<|qe) <| sq (bk 0 (rs 55 (qm 6<|ya<|qb 2 7<|qc 68<|yo<|qr 3 4<|qr 2 3<|qq .lss 6<|y1 1<|qo 4<|za 1<|qv 54<|qe) <| cd 54 (rs 67 (qb 2 7<|qt 4 7 0<|qS 5 7<|qe) .ret) <| rs 69 (qm 6<|qn<|yo<|qr 3 4<|qr 2 3<|qq .gtr 4<|zo 2<|qv 68<|qe) <| cd 68 (rt 78 (qr 3 3<|qr 3 5<|qc 69<|qr 3 4<|qf 2 1<|qs 2 1 7 1<|qf 2 2<|qs 2 1 9 4<|qf 2 3<|qs 2 1 11 6<|qe) <| r2 88 (qr 3 6<|qr 3 6<|qf 2 4<|qs 2 1 4 1<|qf 2 5<|qs 2 1 6 3<|qf 2 6<|q5 (.store (.v 2) 1 (.l 8) (.c (.slice 1 [])))<|qe)) .skip)) <| rt 95 (qb 2 7<|qr 2 0<|qr 3 1<|qr 2 1<|qr 2 3<|q1 (.build z_5 [(0,1,.c (.int .i64 2)),(1,1,.l 2),(2,1,.l 4),(3,1,.l 6),(4,1,.l 8)])<|q1 (.mks 7 1 z_5 [(0,.l 9)])<|qt 4 7 0<|qw 5<|qe) .ret
def F74 : F := mF 2 [.cell 4 (some 7),.t 5] none c74
attribute [go_sem] c74 F74
def l75_0 : C := .loop [] [] [] [] (rs 9 (q3 (.bin .lss (.g 8) (.g 7))<|qe) <| sq (cd 9 .skip <| .exit 0) <| sq (bk 1 (rs 10 (qm 8<|qv 5<|qe) <| rs 11 (qm 1<|qm 0<|qm 5<|qi 1<|qj<|qQ .eql 0<|qe) <| cd 16 (rs 17 (qm 5<|qv 4<|qe) .ret) .skip)) <| r1 18 (q1 (.bin .add (.g 8) (ci 1))<|qv 8<|qe))
def c75 : C := rs 0 (qz 4 0<|qe) <| sq (rs 6 (qm 0<|qH false<|q3 (.mov (ci 0))<|qe) <| bk 0 l75_0) <| rs 0 (qz 4 (-1)<|qe) .ret
def F75 : F := mF 2 [.t 4] none c75
attribute [go_sem] c75 F75
def l76_0 : C := .loop [] [] [] [] (rs 9 (q3 (.bin .lss (.g 8) (.g 7))<|qe) <| sq (cd 9 .skip <| .exit 0) <| sq (bk 1 (rs 10 (qm 8<|qv 5<|qe) <| rs 11 (qm 1<|qm 0<|qm 5<|qi 1<|qj<|q3 (.call (.v (.l 0)) .no none [.l 4])<|qe) <| cd 16 (rs 17 (qm 5<|qv 4<|qe) .ret) .skip)) <| r1 18 (q1 (.bin .add (.g 8) (ci 1))<|qv 8<|qe))
def c76 : C := rs 0 (qz 4 0<|qe) <| sq (rs 6 (qm 0<|qH false<|q3 (.mov (ci 0))<|qe) <| bk 0 l76_0) <| rs 0 (qz 4 (-1)<|qe) .ret
def F76 : F := mF 2 [.t 4] none c76
attribute [go_sem] c76 F76
def c200 : C := rs 0 (qB 5 2<|qS 6 2<|qz 7 0<|qe) <| i1 14 (qm 0<|qc 203<|qn<|yo<|qm 1<|qc 170<|qn<|zO 3<|qe) 21 (rs 0 (qS 6 2<|qz 7 1<|qe) .ret) <| rs 23 (qm 0<|qm 1<|qd 220<|q2 22 (.mov (.l 2))<|qx 0<|qy 1<|qw 8<|qw 9<|qe) <| rs 0 (qS 10 5<|qe) <| i1 28 (q3 (.mov (.g 9))<|qe) 28 (r1 29 (qm 0<|qm 8<|qi 2<|qg 1<|qj<|qv 10<|qe)) <| rs 35 (qm 10<|qb 5 5<|qd 3<|q2 34 (.mov (.l 2))<|qx 0<|qy 1<|qw 11<|qw 12<|qe) <| sq (bk 0 (rs 41 (qm 12<|qk .neq 0<|qv 40<|qe) <| cd 40 (rs 43 (qm 12<|qS 6 2<|qw 7<|qe) .ret) <| rs 45 (qm 9<|qn<|ya<|qm 0<|qh false<|qk .eql 64<|za 2<|qv 44<|qe) <| cd 44 (rs 0 (qS 6 2<|qz 7 6<|qe) .ret) .skip)) <| rs 52 (qm 0<|q1 (.call (.k 221) .no (some 0) [.l 0])<|qv 13<|qe) <| i1 54 (qm 9<|qN<|qe) 55 (r1 56 (qm 13<|qm 8<|qm 1<|q1 (.build z_6 [(0,1,.l 2)])<|q1 (.mks 2 1 z_6 [(0,.l 3)])<|q1 (.ins 222 53 2 (.l 0) (.l 1) (.l 4))<|qv 13<|qe)) <| rs 62 (qm 13<|qm 8<|qm 11<|q1 (.iad 2 (.l 0) (.l 1))<|qg 1<|q5 (.store (.e 53) 1 (.l 4) (.l 2))<|qe) <| rs 67 (qm 13<|qv 6<|qz 7 0<|qe) .ret
def F200 : F := mF 3 [.t 6,.t 7] none c200
attribute [go_sem] c200 F200
def l203_0 : C := .loop [] [] [4] [] (rs 8 (q3 (.bin .lss (.g 7) (.g 6))<|qe) <| sq (cd 8 .skip <| .exit 0) <| sq (bk 1 (rs 9 (qm 7<|q1 (.iad 2 (.g 5) (.g 7))<|qJ 2<|qG 4 z_6<|qV 3 0<|qs 4 2 3 2<|qe) <| rt 12 (qr 4 0<|qc 170<|qn<|yo<|qr 4 1<|qc 7<|qn<|zo 4<|yo<|qr 4 1<|qh false<|qk .eql 0<|zo 10<|yo<|qm 3<|qk .gtr 0<|ya<|qm 0<|qm 3<|qk .sub 1<|q1 (.iad 2 (.l 20) (.l 22))<|qg 0<|qj<|qr 4 0<|qC 192 (ls [25,27])<|qk .geq 0<|y0 16<|qa 19<|zO 16<|qe) <| cd 43 (rs 0 (qF 2<|qe) .ret) .skip)) <| r1 44 (q1 (.bin .add (.g 7) (ci 1))<|qv 7<|qe))
def c203 : C := rs 0 (qF 2<|qe) <| sq (rs 5 (q3 (.mov (.g 0))<|qH false<|q3 (.mov (ci 0))<|qe) <| bk 0 l203_0) <| rs 45 (qm 0<|qh false<|qk .leq 64<|qv 2<|qe) .ret
def F203 : F := mF 1 [.t 2] none c203
attribute [go_sem] c203 F203
def l204_0 : C := .loop [] [] [] [] (lq 7 (qm 3<|qm 0<|qh false<|qQ .lss 0<|qe) 10 0 <| sq (bk 1 (i1 13 (qm 0<|qm 3<|qi 2<|qg 0<|qj<|qc 168<|qn<|yo<|qm 0<|qm 3<|qi 2<|qg 1<|qj<|qh false<|qk .eql 0<|zo 7<|yo<|qm 0<|qm 3<|qi 2<|qg 1<|qj<|qc 4<|qn<|zO 16<|qe) 37 (rs 0 (qF 2<|qe) .ret) <| rt 38 (qm 3<|qk .gtr 0<|ya<|qm 0<|qm 3<|qk .sub 1<|q1 (.iad 2 (.l 3) (.l 5))<|qg 0<|qj<|qm 0<|qm 3<|qi 2<|qg 0<|qj<|qC 187 (ls [8,13])<|qk .neq (-1)<|zA 2<|qe) <| cd 54 (rs 0 (qF 2<|qe) .ret) .skip)) <| r1 11 (qm 3<|qk .add 1<|qv 3<|qe))
def c204 : C := rs 0 (qF 2<|qe) <| i1 4 (qm 0<|qh false<|qK .gtr 64<|qe) 6 (rs 0 (qF 2<|qe) .ret) <| sq (rs 0 (qz 3 0<|qe) <| bk 0 l204_0) <| rs 0 (qT 2<|qe) .ret
def F204 : F := mF 1 [.t 2] none c204
attribute [go_sem] c204 F204
def l206_0 : C := .loop [] [] [17] [] (rs 34 (q3 (.bin .lss (.g 33) (.g 32))<|qe) <| sq (cd 34 .skip <| .exit 0) <| sq (bk 1 (rs 35 (q1 (.iad 2 (.g 31) (.g 33))<|qJ 2<|qG 17 z_6<|qs 17 2 2 1<|qe) <| i1 37 (qm 2<|q1 (.bin .neq (.l 0) (.c (.str [])))<|ya<|qr 17 0<|qm 2<|qd 192<|qk .geq 0<|zA 2<|qe) 45 (.exit 0) <| rs 47 (qr 17 1<|qb 8 3<|qd 12<|q2 46 (.mov (.l 3))<|qx 0<|qy 1<|qw 18<|qw 19<|qe) <| i1 53 (qm 19<|qN<|qe) 54 (.exit 1) <| i1 55 (qm 13<|qh false<|qm 4<|qQ .geq 1<|qe) 58 (rt 59 (qm 13<|qr 17 0<|qV 10 0<|qw 11<|qT 12<|qe) .ret) <| r1 62 (qm 13<|qr 17 0<|qm 18<|q1 (.build z_0 [(0,1,.l 2),(1,1,.l 3)])<|q1 (.mks 2 1 z_0 [(0,.l 4)])<|q1 (.app 13 2 (.l 0) (.l 5))<|qv 13<|qe))) <| r1 69 (q1 (.bin .add (.g 33) (ci 1))<|qv 33<|qe))
def c206 : C := rs 0 (qB 8 3<|qS 10 2<|qE 11<|qF 12<|qe) <| i1 20 (qm 0<|qc 203<|qN<|qe) 22 (rs 0 (qS 10 2<|qE 11<|qF 12<|qe) .ret) <| rs 13 (q3 (.mko 2)<|qe) <| rs 24 (qm 0<|qm 1<|qd 220<|q2 23 (.mov (.l 2))<|qx 0<|qy 1<|qw 14<|qD 15<|q1 (.mov (.l 5))<|qe) <| sq (rs 29 (qm 0<|qm 14<|q3 (.sl false 2 (.l 0) (some (.l 1)) none)<|qH false<|q3 (.mov (ci 0))<|qe) <| bk 0 l206_0) <| rs 70 (qm 13<|qv 10<|qE 11<|qF 12<|qe) .ret
def F206 : F := mF 5 [.t 10,.t 11,.t 12] none c206
attribute [go_sem] c206 F206
def c211 : C := rs 0 (qS 4 2<|qS 5 2<|qe) <| i1 8 (qm 0<|qc 203<|qN<|qe) 10 (rs 0 (qS 4 2<|qS 5 2<|qe) .ret) <| rs 12 (qm 0<|qm 1<|qd 220<|q2 11 (.mov (.l 2))<|qx 0<|qy 1<|qw 6<|qD 7<|q1 (.mov (.l 5))<|qe) <| rt 17 (qm 0<|qm 6<|q1 (.sl false 2 (.l 0) none (some (.l 1)))<|qc 221<|qm 0<|qm 6<|q1 (.sl false 2 (.l 4) (some (.l 5)) none)<|qc 221<|qV 4 3<|qw 5<|qe) .ret
def F211 : F := mF 2 [.t 4,.t 5] none c211
attribute [go_sem] c211 F211
def c213 : C := rs 0 (qS 4 2<|qz 5 0<|qe) <| sq (bk 0 (rs 7 (qm 0<|qc 203<|qn<|yo<|qm 1<|qc 203<|qn<|zo 3<|qv 6<|qe) <| cd 6 (rs 0 (qS 4 2<|qz 5 1<|qe) .ret) <| rt 16 (qm 0<|qh false<|qk .gtr 0<|ya<|qm 1<|qh false<|qk .gtr 0<|za 3<|ya<|qm 0<|qm 0<|qh false<|qk .sub 1<|q1 (.iad 2 (.l 9) (.l 12))<|qg 0<|qj<|qm 1<|q1 (.iad 2 (.l 16) (ci 0))<|qg 0<|qj<|qC 192 (ls [15,19])<|qk .geq 0<|za 8<|qv 15<|qe) <| cd 15 (rs 0 (qS 4 2<|qz 5 9<|qe) .ret) <| rs 40 (qm 0<|qh false<|qm 1<|qh false<|qq .add 1<|qk .gtr 64<|qv 39<|qe) <| cd 39 (rs 0 (qS 4 2<|qz 5 6<|qe) .ret) .skip)) <| rs 46 (qm 0<|q1 (.call (.k 221) .no (some 0) [.l 0])<|qm 1<|qc 221<|q1 (.app 47 2 (.l 1) (.l 3))<|qv 4<|qz 5 0<|qe) .ret
def F213 : F := mF 2 [.t 4,.t 5] none c213
attribute [go_sem] c213 F213
def l217_0 : C := .loop [] [] [7] [] (rs 15 (q3 (.bin .lss (.g 14) (.g 13))<|qe) <| sq (cd 15 .skip <| .exit 0) <| sq (bk 1 (rs 16 (q1 (.iad 2 (.g 12) (.g 14))<|qJ 2<|qG 7 z_6<|qs 7 2 2 1<|qe) <| rs 18 (qr 7 1<|qb 3 3<|qd 17<|qv 8<|qe) <| rs 22 (qm 8<|qh false<|qK .gtr 0<|qe) <| cd 24 (r1 25 (qm 5<|qr 7 0<|qm 8<|q1 (.build z_6 [(0,1,.l 2),(1,1,.l 3)])<|q1 (.mks 2 1 z_6 [(0,.l 4)])<|q1 (.app 5 2 (.l 0) (.l 5))<|qv 5<|qe)) .skip)) <| r1 32 (q1 (.bin .add (.g 14) (ci 1))<|qv 14<|qe))
def c217 : C := rs 0 (qB 3 1<|qS 4 2<|qe) <| i1 9 (qm 0<|qc 203<|qN<|qe) 11 (rs 0 (qS 4 2<|qe) .ret) <| rs 5 (q3 (.mko 2)<|qe) <| sq (rs 12 (q3 (.mov (.g 0))<|qH false<|q3 (.mov (ci 0))<|qe) <| bk 0 l217_0) <| rs 33 (qm 5<|qv 4<|qe) .ret
def F217 : F := mF 2 [.t 4] none c217
attribute [go_sem] c217 F217
def c220 : C := rs 0 (qz 4 0<|qF 5<|qe) <| rs 6 (qm 0<|qm 1<|qC 225 [.l 0,.l 1,.f 226]<|qx 0<|qy 1<|qw 4<|qw 5<|qe) .ret
def F220 : F := mF 2 [.t 4,.t 5] none c220
attribute [go_sem] c220 F220
def l221_0 : C := .loop [] [] [] [] (rs 10 (q3 (.bin .lss (.g 9) (.g 8))<|qe) <| sq (cd 10 .skip <| .exit 0) <| sq (bk 1 (rs 11 (qm 9<|qv 4<|qe) <| r1 12 (qm 3<|qm 4<|qm 3<|qm 4<|qi 2<|qg 1<|q1 (.load (.e 6) none (.l 5))<|qc 23<|q1 (.iad 2 (.l 0) (.l 1))<|qg 1<|q5 (.store (.e 6) 1 (.l 9) (.l 7))<|qe))) <| r1 22 (q1 (.bin .add (.g 9) (ci 1))<|qv 9<|qe))
def c221 : C := rs 0 (qS 2 2<|qe) <| rs 5 (qm 0<|q1 (.call (.k 227) .no (some 0) [.l 0])<|qv 3<|qe) <| sq (rs 7 (qm 3<|qH false<|q3 (.mov (ci 0))<|qe) <| bk 0 l221_0) <| rs 23 (qm 3<|qv 2<|qe) .ret
def F221 : F := mF 1 [.t 2] (some 0) c221
attribute [go_sem] c221 F221
def l223_0 : C := .loop [] [] [] [] (lq 6 (qm 5<|qm 0<|qh false<|qQ .lss 0<|qe) 9 0 <| sq (bk 1 (rs 12 (qm 0<|qm 5<|qi 2<|qg 0<|qj<|qm 1<|qQ .eql 4<|qe) <| cd 18 (rs 19 (qm 0<|qm 5<|qi 2<|qg 1<|qj<|qv 4<|qe) .ret) .skip)) <| r1 10 (qm 5<|qk .add 1<|qv 5<|qe))
def c223 : C := rs 0 (qS 4 5<|qe) <| sq (rs 0 (qz 5 0<|qe) <| bk 0 l223_0) <| rs 0 (qS 4 5<|qe) .ret
def F223 : F := mF 2 [.t 4] none c223
attribute [go_sem] c223 F223
def l225_0 : C := .loop [] [] [] [] (lq 15 (qm 9<|qm 10<|qQ .lss 0<|qe) 17 0 <| bk 1 (rs 18 (qm 9<|qm 10<|qq .add 0<|q1 (.conv (.int .u64) (.l 2))<|q1 (.sh .shr (.l 3) (.c (.int .u64 1)))<|q1 (.conv (.int .i64) (.l 4))<|qv 11<|qe) <| rs 24 (qm 2<|qm 0<|qm 11<|qi 2<|qJ 2<|qm 1<|q1 (.call (.v (.l 0)) .no none [.l 4,.l 5])<|qK .lss 0<|qe) <| cd 31 (r1 32 (qm 11<|qk .add 1<|qv 9<|qe)) <| r1 34 (qm 11<|qv 10<|qe)))
def c225 : C := rs 0 (qz 6 0<|qF 7<|qe) <| rs 12 (qm 0<|qh false<|qv 8<|qe) <| rs 14 (qm 8<|qz 9 0<|qw 10<|qe) <| sq (bk 0 l225_0) <| rs 35 (qm 9<|qm 9<|qm 8<|qq .lss 1<|ya<|qm 2<|qm 0<|qm 9<|qi 2<|qJ 2<|qm 1<|q1 (.call (.v (.l 5)) .no none [.l 9,.l 10])<|qk .eql 0<|za 4<|qV 6 0<|qw 7<|qe) .ret
def F225 : F := mF 3 [.t 6,.t 7] none c225
attribute [go_sem] c225 F225
def c226 : C := rs 0 (qB 2 0<|qz 4 0<|qe) <| rs 5 (qr 2 0<|qm 1<|qd 192<|qv 4<|qe) .ret
def F226 : F := mF 2 [.t 4] none c226
attribute [go_sem] c226 F226
def c240 : C := rs 0 (qB 6 0<|qB 9 3<|qB 10 4<|qG 12 z_7<|qG 13 z_8<|qe) <| i1 16 (qb 6 5<|qc 249<|qn<|yo<|qm 1<|qm 2<|q1 (.mks 1 2 [.int .i64 0] [(0,.l 4),(1,.l 5)])<|qC 284 [ci 1,.l 6]<|qn<|zo 3<|yo<|qm 5<|q1 (.mks 1 1 [.int .i64 0] [(0,.l 11)])<|qC 284 [ci 0,.l 12]<|qn<|zo 10<|yo<|qb 10 3<|qc 28<|qn<|zo 16<|yo<|qb 9 12<|qc 285<|qn<|zO 21<|qe) 41 (rt 42 (qb 6 5<|qC 286 [ci 1]<|qt 12 5 0<|qt 13 9 1<|qe) .ret) <| rs 44 (qb 6 5<|qm 1<|qd 287<|qG 14 z_9<|qs 14 17 3 2<|qe) <| rs 47 (qr 9 3<|q1 (.bin .eql (.l 1) (.c (.str [])))<|ya<|qf 14 2<|qg 0<|ql 14<|q1 (.bin .eql (.l 6) (.c (.str [])))<|za 3<|yo<|qR 14 2 2<|qr 9 3<|qC 171 (ls [11,13])<|zo 9<|qv 15<|qe) <| sq (bk 0 (rs 64 (qr 14 0<|qk .eql 0<|yo<|qr 14 1<|qm 2<|qq .neq 5<|zo 3<|yo<|qm 15<|qn<|zo 9<|qv 63<|qe) <| cd 63 (rt 77 (qb 6 5<|qC 286 [ci 10]<|qt 12 5 0<|qt 13 9 1<|qe) .ret) <| rs 80 (qr 14 4<|qk .neq 1<|yo<|qb 9 12<|qc 288<|ya<|qr 14 13<|qk .neq 0<|y0 3<|qa 6<|zo 3<|qv 79<|qe) <| cd 79 (rt 92 (qb 6 5<|qC 286 [ci 11]<|qt 12 5 0<|qt 13 9 1<|qe) .ret) <| rs 95 (qb 9 12<|qc 288<|qv 94<|qe) <| cd 94 (rs 97 (qb 6 5<|qb 14 17<|qb 9 12<|qb 10 3<|qC 289 (ls [0,1,2,3])<|qx 0<|qy 1<|qt 12 5 5<|qt 13 9 6<|qe) .ret) <| rs 105 (qr 9 2<|qk .eql 4<|qv 104<|qe) <| cd 104 (rt 108 (qb 6 5<|qb 6 5<|qb 14 17<|qr 9 3<|qC 290 (ls [1,2,4])<|qt 12 5 0<|qt 13 9 5<|qe) .ret) .skip)) <| rs 114 (qb 6 5<|qb 14 17<|qb 9 12<|qm 5<|qC 291 (ls [0,1,2,3])<|qx 0<|qy 1<|qt 12 5 5<|qt 13 9 6<|qe) .ret
def F240 : F := mF 6 [.cell 12 (some 5),.cell 13 (some 9)] none c240
attribute [go_sem] c240 F240
def c244 : C := rs 0 (qB 1 0<|qF 2<|qe) <| i1 3 (qr 1 0<|qr 1 1<|q1 (.mks 1 2 [.int .i64 0] [(0,.l 1),(1,.l 3)])<|qC 284 [ci 1,.l 4]<|qn<|yo<|qr 1 13<|qr 1 14<|qr 1 15<|qr 1 16<|q1 (.mks 1 4 [.int .i64 0] [(0,.l 9),(1,.l 11),(2,.l 13),(3,.l 15)])<|qC 284 [ci 0,.l 16]<|qn<|zo 7<|yo<|qr 1 4<|qk .lss 1<|zo 20<|yo<|qr 1 4<|qk .gtr 3<|zO 25<|qe) 32 (rs 0 (qF 2<|qe) .ret) <| i1 33 (qR 1 2 2<|qc 186<|qn<|yo<|qr 1 5<|qc 203<|qn<|zo 4<|yo<|qR 1 6 3<|qc 28<|qn<|zo 10<|yo<|qR 1 9 3<|qc 28<|qn<|zo 16<|yo<|qr 1 12<|qc 81<|qn<|zO 22<|qe) 60 (rs 0 (qF 2<|qe) .ret) <| rs 61 (qr 1 5<|q1 (.fn 298 [.g 1] [1])<|qd 299<|qn<|qv 2<|qe) .ret
def F244 : F := mF 1 [.t 2] none c244
attribute [go_sem] c244 F244
def l245_0 : C := .loop [] [] [] [] (lq 81 (qm 3<|qr 1 5<|qh false<|qQ .lss 0<|qe) 85 0 <| sq (bk 1 (rt 88 (qR 1 2 2<|qr 1 5<|qm 3<|qi 2<|qg 0<|qj<|qC 142 (ls [1,7])<|qN<|qe) <| cd 97 (rs 0 (qF 2<|qe) .ret) .skip)) <| r1 86 (qm 3<|qk .add 1<|qv 3<|qe))
def r245_10 : List Op := (qT 2<|qe) 0 0 none
def c245 : C := rs 0 (qB 1 0<|qF 2<|qe) <| i1 4 (qr 1 0<|qc 292<|qn<|yo<|qr 1 1<|qc 292<|qn<|zo 4<|yo<|qr 1 13<|qc 293<|qn<|zo 10<|yo<|qr 1 14<|qc 293<|qn<|zo 16<|yo<|qr 1 15<|qc 293<|qn<|zo 22<|yo<|qr 1 16<|qc 293<|qn<|zO 28<|qe) 37 (rs 0 (qF 2<|qe) .ret) <| i1 38 (qr 1 4<|qk .neq 1<|ya<|qr 1 4<|qk .neq 2<|za 3<|ya<|qr 1 4<|qk .neq 3<|za 8<|yo<|qR 1 2 2<|qc 167<|qn<|zo 13<|yo<|qr 1 5<|qc 204<|qn<|zo 19<|yo<|qR 1 6 3<|qc 24<|qn<|zo 25<|yo<|qR 1 9 3<|qc 24<|qn<|zo 31<|yo<|qr 1 12<|qc 80<|qn<|zO 37<|qe) 80 (rs 0 (qF 2<|qe) .ret) <| sq (rs 0 (qz 3 0<|qe) <| bk 0 l245_0) <| sq (.region false r245_10) .ret
def F245 : F := mF 1 [.t 2] none c245
attribute [go_sem] r245_10 c245 F245
def l246_0 : C := .loop [] [] [] [] (lq 20 (qm 3<|qr 1 0<|qh false<|qQ .lss 0<|qe) 24 0 <| sq (bk 1 (rt 27 (qr 1 0<|qm 3<|qi 17<|qJ 17<|qc 245<|qn<|yo<|qr 1 0<|qm 3<|qi 17<|qJ 17<|qR 1 1 3<|qC 300 (ls [12,14])<|qn<|zo 7<|yo<|qm 3<|qk .gtr 0<|ya<|qr 1 0<|qm 3<|qk .sub 1<|q1 (.iad 17 (.l 23) (.l 25))<|qg 0<|qj<|qr 1 0<|qm 3<|qi 17<|qg 0<|qj<|qq .geq 28<|y0 18<|qa 21<|zO 18<|qe) <| cd 64 (rs 0 (qF 2<|qe) .ret) .skip)) <| r1 25 (qm 3<|qk .add 1<|qv 3<|qe))
def c246 : C := rs 0 (qB 1 0<|qF 2<|qe) <| i1 4 (qr 1 0<|qh false<|qk .gtr 8<|yo<|qR 1 1 3<|qc 24<|qn<|zo 4<|yo<|qr 1 4<|qc 293<|qn<|zO 10<|qe) 19 (rs 0 (qF 2<|qe) .ret) <| sq (rs 0 (qz 3 0<|qe) <| bk 0 l246_0) <| rs 0 (qT 2<|qe) .ret
def F246 : F := mF 1 [.t 2] none c246
attribute [go_sem] c246 F246
def c247 : C := rs 0 (qB 2 0<|qG 4 z_9<|qF 5<|qe) <| i1 7 (qb 2 5<|qc 249<|qn<|yo<|qm 1<|q1 (.mks 1 1 [.int .i64 0] [(0,.l 4)])<|qC 284 [ci 1,.l 5]<|qn<|zO 3<|qe) 15 (rs 16 (q1 (.build z_9 [])<|qt 4 17 0<|qF 5<|qe) .ret) <| rs 17 (qb 2 5<|qm 1<|qd 287<|qG 6 z_9<|qs 6 17 3 2<|qe) <| rt 20 (qb 6 17<|qr 6 0<|qk .neq 0<|qt 4 17 0<|qw 5<|qe) .ret
def F247 : F := mF 2 [.cell 4 (some 17),.t 5] none c247
attribute [go_sem] c247 F247
def l249_0 : C := .loop [] [] [5] [] (rs 10 (q3 (.bin .lss (.g 9) (.g 8))<|qe) <| sq (cd 10 .skip <| .exit 0) <| sq (bk 1 (rs 11 (q1 (.iad 17 (.g 7) (.g 9))<|qJ 17<|qG 5 z_9<|qs 5 17 2 1<|qe) <| i1 13 (qr 5 0<|qm 3<|qq .leq 1<|yo<|qb 5 17<|qc 244<|qn<|zo 4<|yo<|qb 5 17<|qR 1 1 3<|qC 301 (ls [10,12])<|qn<|zO 9<|qe) 28 (rs 0 (qF 2<|qe) .ret) <| r1 29 (qr 5 0<|qv 3<|qe))) <| r1 31 (q1 (.bin .add (.g 9) (ci 1))<|qv 9<|qe))
def c249 : C := rs 0 (qB 1 0<|qF 2<|qe) <| rs 0 (qz 3 0<|qe) <| sq (rs 6 (qf 1 0<|q3 (.load (.v 1) none (.l 0))<|qH false<|q3 (.mov (ci 0))<|qe) <| bk 0 l249_0) <| rs 32 (qr 1 0<|qh false<|qk .leq 8<|ya<|qR 1 1 3<|qc 28<|za 4<|ya<|qr 1 4<|q1 (.mks 1 1 [.int .i64 0] [(0,.l 11)])<|qC 284 [ci 0,.l 12]<|za 9<|qv 2<|qe) .ret
def F249 : F := mF 1 [.t 2] none c249
attribute [go_sem] c249 F249
def c253 : C := rs 0 (qB 3 0<|qB 4 1<|qG 6 z_7<|qF 7<|qe) <| i1 9 (qb 3 5<|qc 249<|qn<|yo<|qm 2<|q1 (.mks 1 1 [.int .i64 0] [(0,.l 4)])<|qC 284 [ci 1,.l 5]<|qn<|zO 3<|qe) 17 (rs 18 (qb 3 5<|qt 6 5 0<|qF 7<|qe) .ret) <| rs 19 (qb 3 5<|qr 4 0<|qC 287 (ls [0,2])<|qG 8 z_9<|qs 8 17 4 3<|qe) <| i1 23 (qr 8 0<|qK .neq 0<|qe) 25 (rt 26 (qb 3 5<|qb 8 17<|qm 2<|qd 302<|qt 6 5 0<|qw 7<|qe) .ret) <| i1 30 (qm 2<|qr 3 4<|qq .leq 0<|yo<|qr 3 0<|qh false<|qk .eql 8<|zo 4<|yo<|qb 4 17<|qc 244<|qn<|zo 10<|yo<|qb 4 17<|qm 2<|qd 303<|qn<|zo 15<|yo<|qb 4 17<|qR 4 9 3<|qC 301 (ls [22,24])<|qn<|zO 21<|qe) 57 (rs 58 (qb 3 5<|qt 6 5 0<|qF 7<|qe) .ret) <| rs 59 (qf 4 4<|qu 4 0 3<|qe) <| rs 60 (qb 3 5<|qb 4 17<|qd 304<|qt 3 5 2<|qe) <| rs 63 (qR 3 1 3<|qR 4 9 3<|qC 21 (ls [1,3])<|qf 3 1<|qs 3 3 5 4<|qe) <| rs 69 (qb 3 5<|qt 6 5 0<|qT 7<|qe) .ret
def F253 : F := mF 3 [.cell 6 (some 5),.t 7] none c253
attribute [go_sem] c253 F253
def c256 : C := rs 0 (qB 4 0<|qG 8 z_7<|qF 9<|qe) <| rs 13 (qb 4 5<|qm 1<|qd 247<|q2 12 (.mov (.l 2))<|qx 0<|qy 1<|qG 10 z_9<|qs 10 17 6 4<|qV 11 5<|qe) <| i1 18 (qm 11<|qn<|yo<|qm 2<|qm 3<|q1 (.mks 1 2 [.int .i64 0] [(0,.l 3),(1,.l 4)])<|qC 284 [ci 1,.l 5]<|qn<|zo 2<|yo<|qr 10 1<|qm 2<|qq .neq 11<|zo 9<|yo<|qr 10 4<|qk .neq 1<|zo 15<|yo<|qr 10 14<|qm 3<|qq .geq 22<|zo 20<|yo<|qr 10 13<|qk .neq 0<|ya<|qr 10 13<|qm 3<|qq .neq 32<|y0 26<|qa 30<|zO 26<|qe) 54 (rs 55 (qb 4 5<|qt 8 5 0<|qF 9<|qe) .ret) <| rs 56 (qm 3<|qf 10 13<|qs 10 1 1 0<|qe) <| rs 58 (qb 4 5<|qb 10 17<|qd 304<|qt 8 5 2<|qT 9<|qe) .ret
def F256 : F := mF 4 [.cell 8 (some 5),.t 9] none c256
attribute [go_sem] c256 F256
def c258 : C := rs 0 (qB 4 0<|qB 7 3<|qG 8 z_7<|qF 9<|qe) <| rs 13 (qb 4 5<|qm 1<|qd 247<|q2 12 (.mov (.l 2))<|qx 0<|qy 1<|qG 10 z_9<|qs 10 17 6 4<|qV 11 5<|qe) <| i1 18 (qm 11<|qn<|yo<|qm 2<|q1 (.mks 1 1 [.int .i64 0] [(0,.l 3)])<|qC 284 [ci 1,.l 4]<|qn<|zo 2<|yo<|qb 7 3<|qc 28<|qn<|zO 8<|qe) 30 (rs 31 (qb 4 5<|qt 8 5 0<|qF 9<|qe) .ret) <| i1 32 (qr 10 14<|qm 2<|qQ .geq 1<|qe) 35 (rs 36 (qb 4 5<|qt 8 5 0<|qT 9<|qe) .ret) <| rs 37 (qm 2<|qf 10 14<|qs 10 1 1 0<|qe) <| i1 39 (qr 10 13<|qm 2<|qQ .eql 1<|qe) 42 (r1 43 (qf 10 13<|qu 10 0 0<|qe)) <| rs 44 (qb 4 5<|qb 10 17<|qd 304<|qt 4 5 2<|qe) <| rs 47 (qR 4 1 3<|qb 7 3<|qd 21<|qf 4 1<|qs 4 3 4 3<|qe) <| rs 52 (qb 4 5<|qt 8 5 0<|qT 9<|qe) .ret
def F258 : F := mF 4 [.cell 8 (some 5),.t 9] none c258
attribute [go_sem] c258 F258
def c261 : C := rs 0 (qB 2 0<|qB 3 1<|qG 4 z_7<|qe) <| i1 5 (qb 2 5<|qc 249<|ya<|qb 3 3<|qc 28<|zA 2<|qe) 10 (r1 11 (qR 2 1 3<|qb 3 3<|qd 21<|qf 2 1<|qs 2 3 4 3<|qe)) <| rs 16 (qb 2 5<|qt 4 5 0<|qe) .ret
def F261 : F := mF 2 [.cell 4 (some 5)] none c261
attribute [go_sem] c261 F261
def l262_0 : C := .loop [] [] [6] [] (rs 24 (q3 (.bin .lss (.g 23) (.g 22))<|qe) <| sq (cd 24 .skip <| .exit 0) <| sq (bk 1 (rs 25 (qm 23<|q1 (.iad 17 (.g 21) (.g 23))<|q1 (.load (.e 18) (some 17) (.l 1))<|qG 6 z_9<|qV 5 0<|qs 6 17 3 2<|qe) <| rt 28 (qr 2 0<|qm 5<|qr 6 5<|qb 3 3<|q1 (.call (.k 217) .freeze none [.l 4,.l 5])<|q1 (.iad 17 (.l 1) (.l 2))<|qg 5<|q5 (.store (.e 18) 1 (.l 8) (.l 6))<|qe) <| r2 37 (qr 2 0<|qm 5<|qR 6 6 3<|qb 3 3<|q1 (.call (.k 21) .freeze none [.l 4,.l 5])<|q1 (.iad 17 (.l 1) (.l 2))<|qg 6<|q5 (.store (.e 18) 3 (.l 8) (.l 6))<|qe))) <| r1 46 (q1 (.bin .add (.g 23) (ci 1))<|qv 23<|qe))
def c262 : C := rs 0 (qB 2 0<|qB 3 1<|qG 4 z_7<|qe) <| i1 7 (qb 2 5<|q1 (.call (.k 249) .borrow none [.l 0])<|qn<|yo<|qb 3 3<|q1 (.call (.k 28) .borrow none [.l 4])<|qn<|zO 3<|qe) 14 (rs 15 (qb 2 5<|qt 4 5 0<|qe) .ret) <| rs 16 (qr 2 0<|q1 (.call (.k 307) .freeze (some 0) [.l 1])<|qf 2 0<|qs 2 1 3 2<|qe) <| sq (rs 20 (qf 2 0<|q3 (.load (.v 2) none (.l 0))<|qH false<|q3 (.mov (ci 0))<|qe) <| bk 0 l262_0) <| rs 47 (qb 2 5<|qt 4 5 0<|qe) .ret
def F262 : F := mF 2 [.cell 4 (some 5)] none c262
attribute [go_sem] c262 F262
def c265 : C := rs 0 (qB 4 0<|qG 8 z_7<|qF 9<|qe) <| rs 13 (qb 4 5<|qm 1<|qd 247<|q2 12 (.mov (.l 2))<|qx 0<|qy 1<|qG 10 z_9<|qs 10 17 6 4<|qV 11 5<|qe) <| i1 18 (qm 11<|qn<|yo<|qm 2<|qm 3<|q1 (.mks 1 2 [.int .i64 0] [(0,.l 3),(1,.l 4)])<|qC 284 [ci 1,.l 5]<|qn<|zO 2<|qe) 26 (rs 27 (qb 4 5<|qt 8 5 0<|qF 9<|qe) .ret) <| i1 28 (qb 10 17<|qm 3<|q3 (.call (.k 303) .no none [.l 0,.l 1])<|qe) 30 (rs 31 (qb 4 5<|qt 8 5 0<|qT 9<|qe) .ret) <| i1 32 (qr 10 1<|qm 2<|qq .neq 1<|yo<|qr 10 4<|qk .neq 1<|zo 4<|yo<|qr 10 13<|qk .neq 0<|zo 9<|yo<|qr 10 16<|qm 3<|qq .geq 16<|zO 14<|qe) 51 (rs 52 (qb 4 5<|qt 8 5 0<|qF 9<|qe) .ret) <| rt 53 (qm 3<|qR 4 1 3<|qf 10 4<|qu 10 3 2<|qf 10 15<|qs 10 1 5 0<|qf 10 9<|qs 10 3 7 2<|qe) <| rs 59 (qb 4 5<|qb 10 17<|qd 304<|qt 8 5 2<|qT 9<|qe) .ret
def F265 : F := mF 4 [.cell 8 (some 5),.t 9] none c265
attribute [go_sem] c265 F265
def c266 : C := rs 0 (qB 4 0<|qG 8 z_7<|qF 9<|qe) <| rs 13 (qb 4 5<|qm 1<|qd 247<|q2 12 (.mov (.l 2))<|qx 0<|qy 1<|qG 10 z_9<|qs 10 17 6 4<|qV 11 5<|qe) <| i1 18 (qm 11<|qn<|yo<|qm 2<|qm 3<|q1 (.mks 1 2 [.int .i64 0] [(0,.l 3),(1,.l 4)])<|qC 284 [ci 1,.l 5]<|qn<|zO 2<|qe) 26 (rs 27 (qb 4 5<|qt 8 5 0<|qF 9<|qe) .ret) <| i1 28 (qr 10 4<|qk .eql 1<|ya<|qr 10 1<|qm 3<|qq .eql 5<|za 3<|ya<|qr 10 16<|qm 2<|qq .eql 11<|zA 9<|qe) 42 (rs 43 (qb 4 5<|qt 8 5 0<|qT 9<|qe) .ret) <| i1 44 (qb 10 17<|qm 2<|qd 302<|qn<|yo<|qm 3<|qr 10 1<|qq .leq 5<|zO 4<|qe) 53 (rs 54 (qb 4 5<|qt 8 5 0<|qF 9<|qe) .ret) <| rs 55 (qm 3<|qm 2<|qf 10 4<|qu 10 2 1<|qf 10 1<|qs 10 1 4 0<|qf 10 16<|qs 10 1 6 1<|qe) <| rs 60 (qr 4 4<|qm 2<|q1 (.mm true (.l 1) (.l 2))<|qf 4 4<|qs 4 1 4 3<|qe) <| rs 65 (qb 4 5<|qb 10 17<|qd 304<|qt 8 5 2<|qT 9<|qe) .ret
def F266 : F := mF 4 [.cell 8 (some 5),.t 9] none c266
attribute [go_sem] c266 F266
def c267 : C := rs 0 (qB 3 0<|qG 6 z_7<|qF 7<|qe) <| i1 9 (qb 3 5<|qc 249<|qn<|yo<|qm 1<|qm 2<|q1 (.mks 1 2 [.int .i64 0] [(0,.l 4),(1,.l 5)])<|qC 284 [ci 1,.l 6]<|qn<|zO 3<|qe) 18 (rs 19 (qb 3 5<|qt 6 5 0<|qF 7<|qe) .ret) <| rs 20 (qb 3 5<|qm 1<|qd 287<|qG 8 z_9<|qs 8 17 3 2<|qe) <| i1 23 (qr 8 0<|qK .eql 0<|qe) 25 (rs 26 (qb 3 5<|qt 6 5 0<|qT 7<|qe) .ret) <| i1 27 (qb 8 17<|qm 2<|qd 303<|qN<|qe) 30 (rs 31 (qb 3 5<|qt 6 5 0<|qF 7<|qe) .ret) <| rs 32 (qb 3 5<|qm 1<|qd 308<|qt 6 5 2<|qT 7<|qe) .ret
def F267 : F := mF 3 [.cell 6 (some 5),.t 7] none c267
attribute [go_sem] c267 F267
def c270 : C := rs 0 (qB 3 0<|qG 6 z_7<|qF 7<|qe) <| rs 11 (qb 3 5<|qm 1<|qd 247<|q2 10 (.mov (.l 2))<|qx 0<|qy 1<|qG 8 z_9<|qs 8 17 6 4<|qV 9 5<|qe) <| i1 16 (qm 9<|qn<|yo<|qm 2<|q1 (.mks 1 1 [.int .i64 0] [(0,.l 3)])<|qC 284 [ci 1,.l 4]<|qn<|zO 2<|qe) 23 (rs 24 (qb 3 5<|qt 6 5 0<|qF 7<|qe) .ret) <| i1 25 (qr 8 16<|qm 2<|qq .geq 1<|yo<|qr 8 4<|qk .eql 2<|ya<|qr 8 15<|qm 2<|qq .neq 10<|y0 4<|qa 8<|zO 4<|qe) 39 (rs 40 (qb 3 5<|qt 6 5 0<|qT 7<|qe) .ret) <| rs 41 (qm 2<|qf 8 16<|qs 8 1 1 0<|qe) <| i1 43 (qb 8 17<|qm 2<|q3 (.call (.k 303) .no none [.l 0,.l 1])<|qe) 45 (r1 46 (qf 8 4<|qu 8 0 1<|qe)) <| rs 47 (qb 3 5<|qb 8 17<|qd 304<|qt 6 5 2<|qT 7<|qe) .ret
def F270 : F := mF 3 [.cell 6 (some 5),.t 7] none c270
attribute [go_sem] c270 F270
def c271 : C := rs 0 (qB 3 0<|qG 6 z_7<|qF 7<|qe) <| i1 8 (qb 3 5<|qc 249<|qn<|yo<|qm 1<|qm 2<|q1 (.mks 1 2 [.int .i64 0] [(0,.l 4),(1,.l 5)])<|qC 284 [ci 1,.l 6]<|qn<|zO 3<|qe) 17 (rs 18 (qb 3 5<|qt 6 5 0<|qF 7<|qe) .ret) <| i1 19 (qb 3 5<|qm 1<|qd 287<|qm 2<|q3 (.call (.k 302) .no none [.l 2,.l 3])<|qe) 23 (r1 24 (qb 3 5<|qm 1<|qd 308<|qt 3 5 2<|qe)) <| rs 27 (qr 3 4<|qm 2<|q1 (.mm true (.l 1) (.l 2))<|qf 3 4<|qs 3 1 4 3<|qe) <| rs 32 (qb 3 5<|qt 6 5 0<|qT 7<|qe) .ret
def F271 : F := mF 3 [.cell 6 (some 5),.t 7] none c271
attribute [go_sem] c271 F271
def c273 : C := rs 0 (qB 6 0<|qG 12 z_7<|qF 13<|qe) <| i1 19 (qb 6 5<|qc 249<|qn<|yo<|qm 1<|qm 2<|qm 4<|qm 5<|q1 (.mks 1 4 [.int .i64 0] [(0,.l 4),(1,.l 5),(2,.l 6),(3,.l 7)])<|qC 284 [ci 1,.l 8]<|qn<|zO 3<|qe) 30 (rs 31 (qb 6 5<|qt 12 5 0<|qF 13<|qe) .ret) <| rt 32 (qb 6 5<|qm 1<|qd 287<|qb 6 5<|qm 4<|qd 287<|qG 14 z_9<|qG 15 z_9<|qs 14 17 6 2<|qs 15 17 7 5<|qe) <| i1 38 (qr 14 0<|qk .neq 0<|ya<|qr 14 1<|qm 5<|qq .eql 5<|za 3<|ya<|qf 14 2<|qg 1<|ql 14<|qm 3<|qq .eql 12<|za 9<|ya<|qr 15 0<|qk .neq 0<|za 16<|ya<|qr 15 1<|qm 5<|qq .eql 23<|zA 21<|qe) 64 (rs 65 (qb 6 5<|qt 12 5 0<|qT 13<|qe) .ret) <| rs 67 (qR 14 2 2<|qm 3<|qd 178<|q2 66 (.mov (.l 3))<|qx 0<|qy 1<|qY 4 2<|qG 16 z_0<|qG 17 z_0<|qs 16 2 8 5<|qs 17 2 9 6<|qV 18 7<|qe) <| i1 74 (qb 14 17<|qm 2<|qd 309<|qn<|yo<|qm 5<|qm 2<|qq .leq 5<|zo 4<|yo<|qr 14 16<|qm 5<|qq .geq 11<|zo 9<|yo<|qr 15 0<|qk .neq 0<|zo 15<|yo<|qr 6 0<|qh false<|qk .eql 8<|zo 20<|yo<|qm 18<|qk .neq 0<|zO 26<|qe) 103 (rs 104 (qb 6 5<|qt 12 5 0<|qF 13<|qe) .ret) <| rs 105 (qb 14 17<|qt 15 17 0<|qe) <| rs 107 (qr 14 5<|qm 3<|qd 211<|q2 106 (.mov (.l 3))<|qx 0<|qy 1<|qf 14 5<|qs 14 1 7 5<|qf 15 5<|qs 15 1 9 6<|qe) <| rt 115 (qb 16 2<|qb 17 2<|qf 14 2<|qs 14 2 2 0<|qf 15 2<|qs 15 2 4 1<|qe) <| rs 119 (qm 5<|qm 5<|qm 4<|qf 14 1<|qs 14 1 3 0<|qf 15 1<|qs 15 1 5 1<|qf 15 0<|qs 15 1 7 2<|qe) <| rt 125 (qb 6 5<|qb 14 17<|qd 304<|qb 15 17<|qd 304<|qt 12 5 4<|qT 13<|qe) .ret
def F273 : F := mF 6 [.cell 12 (some 5),.t 13] none c273
attribute [go_sem] c273 F273
def c275 : C := rs 0 (qB 5 0<|qG 10 z_7<|qF 11<|qe) <| i1 20 (qb 5 5<|qc 249<|qn<|yo<|qm 1<|qm 2<|qm 3<|qm 4<|q1 (.mks 1 4 [.int .i64 0] [(0,.l 4),(1,.l 5),(2,.l 6),(3,.l 7)])<|qC 284 [ci 1,.l 8]<|qn<|zO 3<|qe) 31 (rs 32 (qb 5 5<|qt 10 5 0<|qF 11<|qe) .ret) <| rt 33 (qb 5 5<|qm 1<|qd 287<|qb 5 5<|qm 2<|qd 287<|qG 12 z_9<|qG 13 z_9<|qs 12 17 6 2<|qs 13 17 7 5<|qe) <| i1 39 (qr 12 0<|qk .neq 0<|ya<|qr 12 1<|qm 4<|qq .eql 5<|za 3<|ya<|qr 13 0<|qk .eql 0<|zA 9<|qe) 52 (rs 53 (qb 5 5<|qt 10 5 0<|qT 11<|qe) .ret) <| i1 54 (qb 12 17<|qm 3<|qd 309<|qn<|yo<|qb 13 17<|qr 13 1<|qC 309 (ls [5,7])<|qn<|zo 4<|yo<|qm 4<|qr 12 1<|qq .leq 12<|zo 11<|yo<|qm 4<|qr 13 1<|qq .leq 18<|zo 17<|yo<|qr 12 16<|qm 4<|qq .geq 25<|zO 23<|qe) 82 (rs 83 (qb 5 5<|qt 10 5 0<|qF 11<|qe) .ret) <| rs 85 (qR 12 2 2<|qR 13 2 2<|qC 311 (ls [1,3])<|q2 84 (.mov (.l 4))<|qx 0<|qy 1<|qG 14 z_0<|qs 14 2 8 6<|qV 15 7<|qe) <| rs 93 (qr 12 5<|qr 13 5<|qC 213 (ls [1,3])<|q2 92 (.mov (.l 4))<|qx 0<|qy 1<|qw 16<|qw 17<|qe) <| rs 101 (qr 12 12<|qr 13 12<|qC 91 (ls [1,3])<|q2 100 (.mov (.l 4))<|qx 0<|qy 1<|qw 18<|qw 19<|qe) <| i1 108 (qm 15<|qk .neq 0<|yo<|qm 17<|qk .neq 0<|zo 2<|yo<|qm 19<|qk .neq 0<|zO 6<|qe) 117 (rs 118 (qb 5 5<|qt 10 5 0<|qF 11<|qe) .ret) <| rs 119 (qb 14 2<|qm 18<|qm 4<|qf 12 2<|qs 12 2 3 0<|qf 12 12<|qs 12 1 5 1<|qf 12 1<|qs 12 1 7 2<|qf 12 15<|qu 12 9 0<|qe) <| rs 126 (qR 12 6 3<|qR 13 6 3<|qC 21 (ls [1,3])<|qf 12 6<|qs 12 3 5 4<|qe) <| rs 132 (qm 16<|qR 12 6 3<|qC 217 (ls [0,2])<|qf 12 5<|qs 12 1 4 3<|qe) <| rt 137 (qr 12 14<|qr 13 14<|q1 (.mm true (.l 1) (.l 3))<|qr 12 16<|qr 13 16<|q1 (.mm true (.l 6) (.l 8))<|qf 12 14<|qs 12 1 10 4<|qf 12 16<|qs 12 1 12 9<|qe) <| rs 149 (qb 5 5<|qb 12 17<|qd 304<|qm 2<|qd 308<|qt 10 5 4<|qT 11<|qe) .ret
def F275 : F := mF 5 [.cell 10 (some 5),.t 11] none c275
attribute [go_sem] c275 F275
def c284 : C := rs 0 (qB 2 0<|qF 4<|qe) <| rs 5 (qm 1<|q1 (.fn 313 [.g 2] [2])<|qd 67<|qn<|qv 4<|qe) .ret
def F284 : F := mF 2 [.t 4] none c284
attribute [go_sem] c284 F284
def c285 : C := rs 0 (qB 1 0<|qF 2<|qe) <| i1 3 (qr 1 0<|qr 1 1<|q1 (.mks 1 2 [.int .i64 0] [(0,.l 1),(1,.l 3)])<|qC 284 [ci 1,.l 4]<|qn<|yo<|qr 1 2<|qk .lss 1<|zo 7<|yo<|qr 1 2<|qk .gtr 6<|zo 12<|yo<|qr 1 4<|qh true<|qk .gtr 16<|zo 17<|yo<|qr 1 6<|qh true<|qk .gtr 16<|zo 23<|yo<|qr 1 11<|qk .lss 0<|zo 29<|yo<|qr 1 11<|qk .gtr 8<|zo 34<|yo<|qR 1 7 3<|qc 28<|qn<|zo 39<|yo<|qr 1 10<|q1 (.bin .neq (.l 47) (.c (.str [])))<|ya<|qr 1 10<|qc 170<|qn<|y0 45<|qa 49<|zO 45<|qe) 58 (rs 0 (qF 2<|qe) .ret) <| i1 59 (qr 1 2<|qK .eql 6<|qe) 61 (rs 62 (qr 1 3<|q1 (.bin .eql (.l 1) (.c (.str [])))<|yo<|qr 1 3<|qc 170<|zo 3<|ya<|qr 1 11<|qk .geq 1<|za 8<|qv 2<|qe) .ret) <| rs 75 (qr 1 3<|qc 170<|qv 2<|qe) .ret
def F285 : F := mF 1 [.t 2] none c285
attribute [go_sem] c285 F285
def c286 : C := rs 0 (qG 2 z_8<|qe) <| rs 3 (qm 0<|q1 (.build z_8 [(0,1,.l 0)])<|qt 2 9 1<|qe) .ret
def F286 : F := mF 1 [.cell 2 (some 9)] none c286
attribute [go_sem] c286 F286
def c287 : C := rs 0 (qB 2 0<|qG 4 z_9<|qe) <| sq (rs 8 (qb 2 5<|qm 1<|qd 314<|q2 7 (.mov (.l 2))<|qx 0<|qy 1<|qw 5<|qw 6<|qe) <| rs 13 (q3 (.mov (.g 6))<|qe) <| cd 13 (rs 14 (qr 2 0<|qm 5<|qi 17<|qJ 17<|qt 4 17 4<|qe) .ret) .skip) <| rs 19 (q1 (.build z_9 [])<|qt 4 17 0<|qe) .ret
def F287 : F := mF 2 [.cell 4 (some 17)] none c287
attribute [go_sem] c287 F287
def c288 : C := rs 0 (qB 1 0<|qF 2<|qe) <| rs 3 (qr 1 2<|qk .eql 1<|yo<|qr 1 2<|qk .eql 2<|zo 3<|yo<|qr 1 2<|qk .eql 3<|zo 8<|qv 2<|qe) .ret
def F288 : F := mF 1 [.t 2] none c288
attribute [go_sem] c288 F288
def r289_0 : List Op := (qB 4 0<|qB 5 1<|qB 6 2<|qB 7 3<|qG 8 z_7<|qG 9 z_8<|qe) 0 0 none
def r289_1 : List Op := (qr 5 12<|qr 6 0<|qr 6 1<|q3 (.call (.k 82) .no none [.l 1,.l 3,.l 5])<|qe) 15 0 none
def r289_2 : List Op := (q1 (.bin .eql (.g 21) (ci 2))<|qv 22<|qe) 23 0 none
def r289_3 : List Op := (qr 5 12<|qr 6 0<|qC 84 (ls [1,3])<|q2 24 (.mov (.l 4))<|qx 0<|qy 1<|qG 10 z_3<|qs 10 11 8 6<|qD 11<|q1 (.mov (.l 7))<|qe) 25 0 none
def r289_4 : List Op := (qb 4 5<|qR 10 2 9<|qt 8 5 0<|qt 9 9 2<|qe) 32 0 none
def r289_5 : List Op := (q1 (.bin .eql (.g 21) (ci 3))<|qv 35<|qe) 36 0 none
def r289_6 : List Op := (qb 4 5<|qC 286 [ci 10]<|qt 8 5 0<|qt 9 9 1<|qe) 37 0 none
def r289_7 : List Op := (qb 7 3<|qR 4 1 3<|qC 15 (ls [0,2])<|qK .leq 0<|qe) 39 0 none
def r289_8 : List Op := (qb 4 5<|qC 286 [ci 1]<|qt 8 5 0<|qt 9 9 1<|qe) 44 0 none
def r289_9 : List Op := (qb 4 5<|qb 5 17<|qr 6 3<|qC 290 (ls [0,1,3])<|qG 12 z_8<|qs 12 9 5 4<|qe) 46 0 none
def r289_10 : List Op := (qb 7 3<|qr 12 4<|q1 (.build z_8 [(1,3,.l 0),(4,1,.l 2)])<|qG 13 z_8<|qs 13 9 4 3<|qe) 51 0 none
def r289_11 : List Op := (qz 14 0<|qe) 0 0 none
def r289_12 : List Op := (qr 6 2<|qk .eql 3<|ya<|qr 12 4<|qr 6 5<|q1 (.eqb true (.l 5) (.l 7))<|yo<|qr 12 4<|ya<|qr 12 5<|qr 6 6<|qq .neq 14<|y0 9<|qa 12<|y1 3<|qo 9<|za 3<|qv 55<|qe) 56 0 none
def r289_13 : List Op := (qr 12 5<|qf 13 0<|qu 13 2 15<|qf 13 5<|qs 13 1 4 1<|qe) 77 0 none
def r289_14 : List Op := (qr 6 2<|qk .neq 2<|qv 81<|qe) 82 0 none
def r289_15 : List Op := (qr 5 5<|qr 6 3<|qb 7 3<|qr 6 4<|q1 (.build z_1 [(0,3,.l 4),(4,1,.l 6)])<|qC 200 (ls [1,3,7])<|q2 85 (.mov (.l 8))<|qx 0<|qy 1<|qf 5 5<|qs 5 1 12 10<|qV 14 11<|qe) 86 0 none
def r289_16 : List Op := (qr 12 4<|qv 98<|qe) 99 0 none
def r289_17 : List Op := (qr 5 5<|qr 6 3<|qb 7 3<|q1 (.build z_1 [(0,3,.l 4),(3,1,.c (.bool true))])<|qC 200 (ls [1,3,5])<|q2 101 (.mov (.l 6))<|qx 0<|qy 1<|qf 5 5<|qs 5 1 10 8<|qV 14 9<|qe) 102 0 none
def r289_18 : List Op := (qm 14<|qK .neq 0<|qe) 112 0 none
def r289_19 : List Op := (qb 4 5<|qm 14<|qc 286<|qt 8 5 0<|qt 9 9 2<|qe) 114 0 none
def r289_20 : List Op := (qr 5 12<|qr 6 0<|qr 6 1<|qb 13 9<|q1 (.build z_3 [(0,1,.l 3),(1,1,.l 5),(2,9,.l 6)])<|qC 88 (ls [1,7])<|q2 117 (.mov (.l 8))<|qx 0<|qy 1<|qf 5 12<|qs 5 1 12 10<|qV 14 11<|qe) 118 0 none
def r289_21 : List Op := (qm 14<|qK .neq 0<|qe) 130 0 none
def r289_22 : List Op := (qb 4 5<|qm 14<|qc 286<|qt 8 5 0<|qt 9 9 2<|qe) 132 0 none
def r289_23 : List Op := (qb 4 5<|qb 5 17<|qd 304<|qt 4 5 2<|qe) 135 0 none
def r289_24 : List Op := (qb 7 3<|qf 4 1<|qs 4 3 1 0<|qe) 138 0 none
def r289_25 : List Op := (qb 4 5<|qb 13 9<|qt 8 5 0<|qt 9 9 1<|qe) 140 0 none
def c289 : C := sq (.region false r289_0) <| sq (sq (.region false r289_1) <| bk 0 (sq (.region false r289_2) <| cd 22 (sq (.region false r289_3) <| sq (.region true r289_4) .ret) <| sq (.region false r289_5) <| cd 35 (sq (.region true r289_6) .ret) .skip)) <| sq (sq (.region false r289_7) <| cd 43 (sq (.region true r289_8) .ret) .skip) <| sq (.region false r289_9) <| sq (.region false r289_10) <| sq (.region false r289_11) <| sq (bk 1 (sq (.region false r289_12) <| cd 55 (.region true r289_13) <| sq (.region false r289_14) <| cd 81 (.region false r289_15) <| sq (.region false r289_16) <| cd 98 (.region false r289_17) .skip)) <| sq (sq (.region false r289_18) <| cd 113 (sq (.region true r289_19) .ret) .skip) <| sq (sq (.region false r289_20) <| sq (.region false r289_21) <| cd 131 (sq (.region true r289_22) .ret) .skip) <| sq (.region false r289_23) <| sq (.region false r289_24) <| sq (.region true r289_25) .ret
def F289 : F := mF 4 [.cell 8 (some 5),.cell 9 (some 9)] none c289
attribute [go_sem] r289_0 r289_1 r289_2 r289_3 r289_4 r289_5 r289_6 r289_7 r289_8 r289_9 r289_10 r289_11 r289_12 r289_13 r289_14 r289_15 r289_16 r289_17 r289_18 r289_19 r289_20 r289_21 r289_22 r289_23 r289_24 r289_25 c289 F289
def c290 : C := rs 0 (qB 3 0<|qB 4 1<|qG 6 z_8<|qe) <| rs 10 (qr 4 5<|qm 2<|qR 3 1 3<|qC 312 (ls [1,2,4])<|q2 9 (.mov (.l 5))<|qx 0<|qy 1<|qG 7 z_1<|qs 7 5 9 7<|qV 8 8<|qe) <| rs 18 (qR 7 0 3<|qm 8<|ya<|qr 7 3<|qn<|za 3<|qr 7 4<|q1 (.build z_8 [(1,3,.l 1),(4,1,.l 7),(5,1,.l 9)])<|qt 6 9 10<|qe) .ret
def F290 : F := mF 3 [.cell 6 (some 9)] none c290
attribute [go_sem] c290 F290
def c291 : C := rs 0 (qB 4 0<|qB 5 1<|qB 6 2<|qG 8 z_7<|qG 9 z_8<|qe) <| sq (bk 0 (rs 16 (qR 6 7 3<|qR 5 6 3<|qC 15 (ls [1,3])<|qk .lss 0<|qv 15<|qe) <| cd 15 (rt 22 (qb 4 5<|qC 286 [ci 13]<|qt 8 5 0<|qt 9 9 1<|qe) .ret) <| rs 25 (qf 6 7<|qg 0<|ql 6<|qk .sub 1000<|qm 3<|qq .gtr 3<|qv 24<|qe) <| cd 24 (rt 31 (qb 4 5<|qC 286 [ci 12]<|qt 8 5 0<|qt 9 9 1<|qe) .ret) .skip)) <| rs 33 (qR 4 1 3<|qR 6 7 3<|qC 21 (ls [1,3])<|qf 4 1<|qs 4 3 5 4<|qe) <| rs 39 (qR 6 7 3<|q1 (.build z_8 [(1,3,.l 1)])<|qG 10 z_8<|qs 10 9 3 2<|qe) <| i1 42 (qr 6 2<|qK .eql 5<|qe) 44 (rs 46 (qr 5 5<|qr 6 3<|qR 6 7 3<|qC 312 (ls [1,3,5])<|q2 45 (.mov (.l 6))<|qx 0<|qy 1<|qG 11 z_1<|qs 11 5 10 8<|qV 12 9<|qe) <| rt 55 (qm 12<|ya<|qr 11 3<|qn<|za 1<|qr 11 4<|qf 10 4<|qs 10 1 8 5<|qf 10 5<|qs 10 1 10 7<|qe) <| rt 65 (qb 4 5<|qb 10 9<|qt 8 5 0<|qt 9 9 1<|qe) .ret) <| rs 67 (qr 6 10<|qv 13<|qe) <| rs 69 (qf 5 2<|qg 1<|ql 5<|q1 (.bin .neq (.l 2) (.c (.str [])))<|ya<|qm 13<|q1 (.bin .eql (.l 5) (.c (.str [])))<|yo<|qf 5 2<|qg 1<|ql 5<|qm 13<|qd 192<|qk .lss 0<|y1 4<|qo 7<|za 4<|qv 14<|qe) <| i1 85 (q3 (.mov (.g 14))<|qe) 85 (r1 86 (qf 5 2<|qg 1<|ql 5<|qv 13<|qe)) <| rs 90 (qr 5 5<|qr 6 3<|qm 13<|qR 6 7 3<|qr 6 11<|qC 206 (ls [1,3,4,6,8])<|q2 89 (.mov (.l 9))<|qx 0<|qy 1<|qY 10 2<|qf 10 6<|qs 10 1 14 11<|qf 10 7<|qs 10 1 16 12<|qf 10 8<|qs 10 1 18 13<|qe) <| i1 106 (qm 14<|ya<|qr 10 8<|qn<|zA 1<|qe) 111 (r1 112 (qm 13<|qf 10 7<|qs 10 1 1 0<|qf 10 8<|q5 (.store (.v 10) 1 (.l 3) (cb true))<|qe)) <| rt 115 (qb 4 5<|qb 10 9<|qt 8 5 0<|qt 9 9 1<|qe) .ret
def F291 : F := mF 4 [.cell 8 (some 5),.cell 9 (some 9)] none c291
attribute [go_sem] c291 F291
def c292 : C := rs 0 (qF 2<|qe) <| rs 3 (qm 0<|qk .gtr 0<|ya<|qm 0<|qk .leq 1099511627776<|za 2<|qv 2<|qe) .ret
def F292 : F := mF 1 [.t 2] none c292
attribute [go_sem] c292 F292
def c293 : C := rs 0 (qF 2<|qe) <| rs 3 (qm 0<|qk .eql 0<|yo<|qm 0<|qc 292<|zo 2<|qv 2<|qe) .ret
def F293 : F := mF 1 [.t 2] none c293
attribute [go_sem] c293 F293
def c298 : C := rs 0 (qB 2 0<|qF 3<|qe) <| rs 4 (qf 1 2<|qJ 2<|qr 2 0<|qC 171 (ls [1,3])<|qn<|qv 3<|qe) .ret
def F298 : F := mF 2 [.t 3] none c298
attribute [go_sem] c298 F298
def c299 : C := rs 0 (qF 4<|qe) <| rs 5 (qm 0<|qm 1<|qd 315<|qk .geq 0<|qv 4<|qe) .ret
def F299 : F := mF 2 [.t 4] none c299
attribute [go_sem] c299 F299
def l300_1 : C := .loop [] [] [] [] (lq 14 (qm 6<|qr 2 5<|qm 5<|qi 2<|qg 1<|qj<|qh false<|qQ .lss 0<|qe) 22 2 <| sq (bk 3 (rt 25 (qb 3 3<|qr 2 5<|qm 5<|qi 2<|qg 1<|qj<|qm 6<|qi 5<|qg 0<|qJ 3<|q3 (.call (.k 6) .no none [.l 0,.l 10])<|qe) <| cd 36 (rs 0 (qF 4<|qe) .ret) .skip)) <| r1 23 (qm 6<|qk .add 1<|qv 6<|qe))
def l300_0 : C := .loop [] [] [] [] (lq 7 (qm 5<|qr 2 5<|qh false<|qQ .lss 0<|qe) 11 0 <| sq (bk 1 (rs 0 (qz 6 0<|qe) <| bk 2 l300_1)) <| r1 12 (qm 5<|qk .add 1<|qv 5<|qe))
def c300 : C := rs 0 (qB 2 0<|qB 3 1<|qF 4<|qe) <| sq (rs 0 (qz 5 0<|qe) <| bk 0 l300_0) <| rs 0 (qT 4<|qe) .ret
def F300 : F := mF 2 [.t 4] none c300
attribute [go_sem] c300 F300
def c301 : C := rs 0 (qB 2 0<|qB 3 1<|qF 4<|qe) <| rs 5 (qr 2 5<|q1 (.fn 316 [.g 3] [3])<|qd 299<|qn<|qv 4<|qe) .ret
def F301 : F := mF 2 [.t 4] none c301
attribute [go_sem] c301 F301
def c302 : C := rs 0 (qB 2 0<|qF 4<|qe) <| rs 5 (qr 2 4<|qk .eql 3<|ya<|qr 2 15<|qm 1<|qq .eql 5<|za 3<|qv 4<|qe) .ret
def F302 : F := mF 2 [.t 4] none c302
attribute [go_sem] c302 F302
def c303 : C := rs 0 (qB 2 0<|qF 4<|qe) <| rs 5 (qr 2 4<|qk .eql 2<|ya<|qr 2 15<|qm 1<|qq .eql 5<|za 3<|qv 4<|qe) .ret
def F303 : F := mF 2 [.t 4] none c303
attribute [go_sem] c303 F303
def c304 : C := rs 0 (qB 2 0<|qB 3 1<|qG 4 z_7<|qe) <| rs 8 (qb 2 5<|qr 3 0<|q1 (.call (.k 314) .borrow none [.l 0,.l 2])<|q2 7 (.mov (.l 3))<|qx 0<|qy 1<|qw 5<|qw 6<|qe) <| rs 14 (qr 2 0<|q1 (.call (.k 307) .freeze (some 0) [.l 1])<|qf 2 0<|qs 2 1 3 2<|qe) <| sq (rs 18 (q3 (.mov (.g 6))<|qe) <| cd 18 (r1 19 (qr 2 0<|qm 5<|qb 3 17<|q1 (.iad 17 (.l 1) (.l 2))<|q5 (.store (.e 16) 17 (.l 4) (.l 3))<|qe)) <| r1 24 (qr 2 0<|qm 5<|qb 3 17<|q1 (.mks 17 1 z_9 [(0,.l 3)])<|q1 (.ins 317 16 17 (.l 1) (.l 2) (.l 4))<|qf 2 0<|qs 2 1 6 5<|qe)) <| rs 31 (qb 2 5<|qt 4 5 0<|qe) .ret
def F304 : F := mF 2 [.cell 4 (some 5)] none c304
attribute [go_sem] c304 F304
def c308 : C := rs 0 (qB 2 0<|qG 4 z_7<|qe) <| sq (rs 8 (qb 2 5<|qm 1<|q1 (.call (.k 314) .borrow none [.l 0,.l 1])<|q2 7 (.mov (.l 2))<|qx 0<|qy 1<|qw 5<|qw 6<|qe) <| rs 13 (q3 (.mov (.g 6))<|qe) <| cd 13 (r1 14 (qr 2 0<|q1 (.call (.k 307) .freeze (some 0) [.l 1])<|qm 5<|qm 5<|qk .add 1<|q1 (.del 318 16 17 (.l 2) (.l 3) (.l 5))<|qf 2 0<|qs 2 1 7 6<|qe)) .skip) <| rs 22 (qb 2 5<|qt 4 5 0<|qe) .ret
def F308 : F := mF 2 [.cell 4 (some 5)] none c308
attribute [go_sem] c308 F308
def c309 : C := rs 0 (qB 2 0<|qF 4<|qe) <| rs 5 (qr 2 0<|qk .neq 0<|ya<|qr 2 1<|qm 1<|qq .eql 5<|za 3<|ya<|qr 2 4<|qk .eql 1<|za 9<|ya<|qr 2 13<|qk .eql 0<|za 14<|qv 4<|qe) .ret
def F309 : F := mF 2 [.t 4] none c309
attribute [go_sem] c309 F309
def c311 : C := rs 0 (qB 2 0<|qB 3 1<|qG 4 z_0<|qz 5 0<|qe) <| sq (bk 0 (rs 7 (qb 2 2<|qc 186<|qn<|yo<|qb 3 2<|qc 186<|qn<|zo 3<|qv 6<|qe) <| cd 6 (rs 15 (q1 (.build z_0 [])<|qt 4 2 0<|qz 5 1<|qe) .ret) <| rs 17 (qr 2 1<|q1 (.bin .eql (.l 1) (.c (.str [])))<|yo<|qr 2 1<|qr 3 0<|qq .neq 5<|zo 3<|qv 16<|qe) <| cd 16 (rs 27 (q1 (.build z_0 [])<|qt 4 2 0<|qz 5 9<|qe) .ret) .skip)) <| rs 28 (qr 2 0<|qr 3 1<|q1 (.build z_0 [(0,1,.l 1),(1,1,.l 3)])<|qt 4 2 4<|qz 5 0<|qe) .ret
def F311 : F := mF 2 [.cell 4 (some 2),.t 5] none c311
attribute [go_sem] c311 F311
def c312 : C := rs 0 (qB 5 2<|qG 6 z_1<|qF 7<|qe) <| i1 10 (qm 0<|qc 203<|qN<|qe) 12 (rs 13 (q1 (.build z_1 [])<|qt 6 5 0<|qF 7<|qe) .ret) <| rs 15 (qm 0<|qm 1<|qd 220<|q2 14 (.mov (.l 2))<|qx 0<|qy 1<|qw 8<|qw 9<|qe) <| i1 20 (qm 9<|qN<|qe) 21 (rs 22 (q1 (.build z_1 [])<|qt 6 5 0<|qF 7<|qe) .ret) <| rt 23 (qm 0<|qm 8<|qi 2<|qg 1<|qj<|qb 5 3<|qd 10<|qx 0<|qy 1<|qt 6 5 7<|qw 7<|qe) .ret
def F312 : F := mF 3 [.cell 6 (some 5),.t 7] none c312
attribute [go_sem] c312 F312
def c313 : C := rs 0 (qF 3<|qe) <| rs 4 (qm 0<|q1 (.load (.c) none (.g 1))<|qq .lss 0<|yo<|qm 0<|qk .gtr 1099511627776<|zo 3<|qv 3<|qe) .ret
def F313 : F := mF 2 [.t 3] none c313
attribute [go_sem] c313 F313
def c314 : C := rs 0 (qB 2 0<|qz 4 0<|qF 5<|qe) <| rs 6 (qr 2 0<|qm 1<|qC 319 [.l 1,.l 2,.f 320]<|qx 0<|qy 1<|qw 4<|qw 5<|qe) .ret
def F314 : F := mF 2 [.t 4,.t 5] none c314
attribute [go_sem] c314 F314
def l315_0 : C := .loop [] [] [] [] (rs 9 (q3 (.bin .lss (.g 8) (.g 7))<|qe) <| sq (cd 9 .skip <| .exit 0) <| sq (bk 1 (rs 10 (qm 8<|qv 5<|qe) <| rs 11 (qm 1<|qm 0<|qm 5<|qi 2<|qJ 2<|q3 (.call (.v (.l 0)) .no none [.l 4])<|qe) <| cd 16 (rs 17 (qm 5<|qv 4<|qe) .ret) .skip)) <| r1 18 (q1 (.bin .add (.g 8) (ci 1))<|qv 8<|qe))
def c315 : C := rs 0 (qz 4 0<|qe) <| sq (rs 6 (qm 0<|qH false<|q3 (.mov (ci 0))<|qe) <| bk 0 l315_0) <| rs 0 (qz 4 (-1)<|qe) .ret
def F315 : F := mF 2 [.t 4] none c315
attribute [go_sem] c315 F315
def c316 : C := rs 0 (qB 2 0<|qF 3<|qe) <| rt 4 (qr 2 1<|qr 2 1<|qh false<|qk .sub 1<|q1 (.iad 5 (.l 1) (.l 5))<|qg 0<|qJ 3<|q1 (.load (.c) (some 3) (.g 1))<|qd 15<|qk .gtr 0<|qv 3<|qe) .ret
def F316 : F := mF 2 [.t 3] none c316
attribute [go_sem] c316 F316
def l319_0 : C := .loop [] [] [] [] (lq 15 (qm 9<|qm 10<|qQ .lss 0<|qe) 17 0 <| bk 1 (rs 18 (qm 9<|qm 10<|qq .add 0<|q1 (.conv (.int .u64) (.l 2))<|q1 (.sh .shr (.l 3) (.c (.int .u64 1)))<|q1 (.conv (.int .i64) (.l 4))<|qv 11<|qe) <| rs 24 (qm 2<|qm 0<|qm 11<|qi 17<|qJ 17<|qm 1<|q1 (.call (.v (.l 0)) .no none [.l 4,.l 5])<|qK .lss 0<|qe) <| cd 31 (r1 32 (qm 11<|qk .add 1<|qv 9<|qe)) <| r1 34 (qm 11<|qv 10<|qe)))
def c319 : C := rs 0 (qz 6 0<|qF 7<|qe) <| rs 12 (qm 0<|qh false<|qv 8<|qe) <| rs 14 (qm 8<|qz 9 0<|qw 10<|qe) <| sq (bk 0 l319_0) <| rs 35 (qm 9<|qm 9<|qm 8<|qq .lss 1<|ya<|qm 2<|qm 0<|qm 9<|qi 17<|qJ 17<|qm 1<|q1 (.call (.v (.l 5)) .no none [.l 9,.l 10])<|qk .eql 0<|za 4<|qV 6 0<|qw 7<|qe) .ret
def F319 : F := mF 3 [.t 6,.t 7] none c319
attribute [go_sem] c319 F319
def c320 : C := rs 0 (qB 2 0<|qz 4 0<|qe) <| rs 5 (qr 2 0<|qm 1<|qq .sub 1<|qv 4<|qe) .ret
def F320 : F := mF 2 [.t 4] none c320
attribute [go_sem] c320 F320
def c341 : C := rs 0 (qB 1 0<|qF 2<|qe) <| i1 3 (qr 1 0<|qk .lss 1<|yo<|qr 1 0<|qk .gtr 37<|zo 3<|yo<|qf 1 25<|qg 0<|ql 1<|qk .lss 0<|zo 8<|yo<|qf 1 25<|qg 0<|ql 1<|qk .gtr 16<|zo 14<|yo<|qf 1 25<|qg 6<|ql 1<|qh false<|qk .gtr 8<|zo 20<|yo<|qr 1 34<|qh false<|qk .gtr 8<|zo 27<|yo<|qr 1 35<|qh false<|qk .gtr 8<|zO 33<|qe) 41 (rs 0 (qF 2<|qe) .ret) <| i1 42 (qb 1 36<|qc 366<|q3 (.call (.k 67) .no none [.l 1,.f 367])<|qe) 44 (rs 0 (qF 2<|qe) .ret) <| rs 45 (qR 1 9 3<|qc 28<|ya<|qf 1 13<|qg 7<|q1 (.load (.v 1) (some 3) (.l 5))<|qc 28<|za 3<|ya<|qf 1 25<|qg 1<|q1 (.load (.v 1) (some 3) (.l 11))<|qc 28<|za 9<|qv 2<|qe) .ret
def F341 : F := mF 1 [.t 2] none c341
attribute [go_sem] c341 F341
def c345 : C := rs 0 (qS 2 1<|qe) <| i1 3 (qm 0<|qc 368<|qN<|qe) 5 (rs 0 (qS 2 1<|qe) .ret) <| rs 6 (qm 0<|qm 0<|qk .rem 3<|qk .add 1<|q1 (.mks 1 2 [.int .i64 0] [(0,.l 0),(1,.l 3)])<|qv 2<|qe) .ret
def F345 : F := mF 1 [.t 2] none c345
attribute [go_sem] c345 F345
def l366_0 : C := .loop [] [] [5] [] (rs 41 (q3 (.bin .lss (.g 40) (.g 39))<|qe) <| sq (cd 41 .skip <| .exit 0) <| sq (bk 1 (rs 42 (q1 (.iad 5 (.g 38) (.g 40))<|qJ 5<|qG 5 z_10<|qs 5 5 2 1<|qe) <| r1 44 (qm 3<|qr 5 2<|qr 5 3<|qr 5 4<|q1 (.mks 1 3 [.int .i64 0] [(0,.l 2),(1,.l 4),(2,.l 6)])<|q1 (.app 36 1 (.l 0) (.l 7))<|qv 3<|qe))) <| r1 53 (q1 (.bin .add (.g 40) (ci 1))<|qv 40<|qe))
def c366 : C := rs 0 (qB 1 0<|qS 2 1<|qe) <| rs 6 (qr 1 0<|qr 1 1<|qr 1 2<|qr 1 3<|qr 1 4<|qr 1 5<|qr 1 6<|qr 1 7<|qr 1 8<|qf 1 13<|qg 0<|ql 1<|qf 1 13<|qg 1<|ql 1<|qf 1 13<|qg 2<|ql 1<|qf 1 13<|qg 11<|ql 1<|q1 (.mkb 1 13 [.int .i64 0] [(0,.l 1),(1,.l 3),(2,.l 5),(3,.l 7),(4,.l 9),(5,.l 11),(6,.l 13),(7,.l 15),(8,.l 17),(9,.l 20),(10,.l 23),(11,.l 26),(12,.l 29)])<|qv 3<|qe) <| sq (rs 37 (qf 1 34<|q3 (.load (.v 1) none (.l 0))<|qH false<|q3 (.mov (ci 0))<|qe) <| bk 0 l366_0) <| rs 54 (qm 3<|qr 1 35<|q1 (.app 36 1 (.l 0) (.l 2))<|qv 2<|qe) .ret
def F366 : F := mF 1 [.t 2] none c366
attribute [go_sem] c366 F366
def c367 : C := rs 0 (qF 2<|qe) <| rs 3 (qm 0<|qk .lss 0<|yo<|qm 0<|qk .gtr 1099511627776<|zo 2<|qv 2<|qe) .ret
def F367 : F := mF 1 [.t 2] none c367
attribute [go_sem] c367 F367
def c368 : C := rs 0 (qF 2<|qe) <| rs 3 (qm 0<|qk .geq 1<|ya<|qm 0<|qk .leq 3<|za 2<|qv 2<|qe) .ret
def F368 : F := mF 1 [.t 2] none c368
attribute [go_sem] c368 F368
def l418_0 : C := .loop [] [] [5] [] (rs 17 (q3 (.bin .lss (.g 16) (ci 3))<|qe) <| sq (cd 17 .skip <| .exit 0) <| sq (bk 1 (rs 18 (qm 16<|qv 4<|qe) <| rs 20 (qm 4<|qk .add 1<|qc 395<|q2 19 (.mov (.l 2))<|qx 0<|qy 1<|qG 5 z_11<|qs 5 2 6 4<|qV 6 5<|qe) <| i1 25 (qm 6<|qK .neq 0<|qe) 26 (rs 0 (qF 2<|qe) .ret) <| r1 27 (qm 4<|qb 5 2<|qf 3 0<|q1 (.iada 2 3 (.l 2) (.l 0))<|qs 3 2 3 1<|qe))) <| r1 31 (q1 (.bin .add (.g 16) (ci 1))<|qv 16<|qe))
def l418_3 : C := .loop [] [] [] [] (rs 113 (q3 (.bin .lss (.g 112) (.g 111))<|qe) <| sq (cd 113 .skip <| .exit 6) <| sq (bk 7 (rs 114 (qm 112<|qv 15<|qe) <| rt 115 (qm 14<|qm 15<|qi 5<|qJ 5<|qr 13 1<|qm 15<|qi 5<|qJ 5<|q3 (.eqa true [.i,.i,.i,.b,.s] (.l 3) (.l 8))<|qe) <| cd 124 (rs 0 (qF 2<|qe) .ret) .skip)) <| r1 125 (q1 (.bin .add (.g 112) (ci 1))<|qv 112<|qe))
def l418_2 : C := .loop [] [] [13] [] (rs 92 (q3 (.bin .lss (.g 91) (.g 90))<|qe) <| sq (cd 92 .skip <| .exit 4) <| sq (bk 5 (rs 93 (q1 (.iad 2 (.g 89) (.g 91))<|qJ 2<|qG 13 z_6<|qs 13 2 2 1<|qe) <| rt 95 (qr 10 0<|q1 (.iad 17 (.l 1) (ci 0))<|qg 5<|qj<|qr 13 0<|qC 223 (ls [4,6])<|qv 14<|qe) <| i1 103 (qm 14<|qh false<|qr 13 1<|qh false<|qQ .lss 1<|qe) 108 (rs 0 (qF 2<|qe) .ret) <| rs 109 (qr 13 1<|qH false<|q3 (.mov (ci 0))<|qe) <| bk 6 l418_3)) <| r1 126 (q1 (.bin .add (.g 91) (ci 1))<|qv 91<|qe))
def l418_1 : C := .loop [] [3,6,10306,3,7,10307] [10,13] [20006,20007] (lq 39 (qm 9<|qm 0<|qh false<|qq .lss 0<|ya<|qm 9<|qk .lss 50<|zA 4<|qe) 46 2 <| sq (bk 3 (i1 49 (qm 0<|qm 9<|qi 16<|qg 4<|qg 3<|qj<|qh true<|qK .gtr 100<|qe) 56 (rs 57 (q0 400<|qv 2<|qe) .ret) <| rs 58 (qm 0<|qm 9<|qi 16<|qJ 16<|qm 9<|q1 (.rcall 417 [.g 3,.l 3,.l 4] 0 3 20000)<|qe) <| rs 65 (qf 3 0<|q1 (.iada 2 3 (.l 0) (ci 0))<|q1 (.load (.v 3) (some 2) (.l 1))<|qC 406 [.l 2,ci 1]<|q2 64 (.mov (.l 3))<|qx 0<|qy 1<|qG 10 z_7<|qs 10 5 7 5<|qV 11 6<|qe) <| i1 71 (qm 11<|qn<|yo<|qr 10 0<|qh false<|qk .neq 1<|zo 2<|yo<|qr 7 0<|qh false<|qk .neq 1<|zO 8<|qe) 84 (rs 0 (qF 2<|qe) .ret) <| sq (rs 85 (qr 7 0<|q1 (.iad 17 (.l 1) (ci 0))<|qg 5<|q3 (.load (.c) none (.l 3))<|qH false<|q3 (.mov (ci 0))<|qe) <| bk 4 l418_2) <| r1 127 (qb 10 5<|qt 7 5 0<|qe))) <| r1 47 (qm 9<|qk .add 1<|qv 9<|qe))
def c418 : C := rs 0 (qF 2<|qe) <| rs 3 (q3 (.allo [.int .i64 0,.slice 9 [],.int .i64 0,.slice 9 [],.int .i64 0,.slice 9 [],.nslice 36,.nslice 12] 10300)<|qe) <| sq (rs 0 (qz 16 0<|qe) <| bk 0 l418_0) <| rs 33 (qf 3 0<|q1 (.iada 2 3 (.l 0) (ci 0))<|q1 (.load (.v 3) (some 2) (.l 1))<|qC 406 [.l 2,ci 1]<|q2 32 (.mov (.l 3))<|qx 0<|qy 1<|qG 7 z_7<|qs 7 5 7 5<|qD 8<|q1 (.mov (.l 6))<|qe) <| sq (rs 0 (qz 9 0<|qe) <| bk 2 l418_1) <| rs 128 (q0 400<|qv 2<|qe) .ret
def F418 : F := mF 1 [.t 2] none c418
attribute [go_sem] c418 F418
def l395_0 : C := .loop [] [] [8] [] (lq 19 (qm 5<|qK .leq 3<|qe) 20 0 <| sq (bk 1 (rs 24 (qm 5<|q1 (.call (.k 397) .freeze none [.l 0])<|q1 (.call (.k 401) .borrow none [.l 1])<|q2 23 (.mov (.l 2))<|qx 0<|qy 1<|qw 6<|qD 7<|q1 (.mov (.l 5))<|qe) <| rs 30 (qm 0<|qm 5<|q1 (.call (.k 345) .freeze none [.l 1])<|qm 6<|q1 (.call (.k 43) .freeze none [.l 0,.l 2,.l 3])<|q2 29 (.mov (.l 4))<|qx 0<|qy 1<|qG 8 z_4<|qs 8 7 8 6<|qV 9 7<|qe) <| rs 37 (qm 9<|qK .eql 0<|qe) <| cd 38 (r1 39 (qr 4 1<|qm 5<|qb 8 7<|q1 (.build z_12 [(0,1,.l 2),(1,7,.l 3)])<|q1 (.mks 9 1 z_12 [(0,.l 4)])<|q1 (.app 45 9 (.l 1) (.l 5))<|qf 4 1<|qs 4 1 7 6<|qe)) .skip)) <| r1 21 (qm 5<|qk .add 1<|qv 5<|qe))
def c395 : C := rs 0 (qG 2 z_11<|qz 3 0<|qe) <| i1 10 (qm 0<|qk .lss 1<|yo<|qm 0<|qk .gtr 3<|zO 2<|qe) 15 (rs 16 (q1 (.build z_11 [])<|qt 2 2 0<|qz 3 1<|qe) .ret) <| rs 17 (qm 0<|q1 (.build [.int .i64 0,.nslice 9] [(0,1,.l 0)])<|qG 4 z_13<|qs 4 2 2 1<|qe) <| sq (rs 0 (qz 5 1<|qe) <| bk 0 l395_0) <| rs 47 (qb 4 2<|qt 2 2 0<|qz 3 0<|qe) .ret
def F395 : F := mF 1 [.cell 2 (some 2),.t 3] none c395
attribute [go_sem] c395 F395
def c397 : C := rs 0 (qG 2 z_7<|qe) <| i1 3 (qm 0<|qK .neq 1<|qe) 4 (rs 5 (q1 (.build z_7 [])<|qt 2 5 0<|qe) .ret) <| rs 6 (q1 (.build z_9 [(0,1,.c (.int .i64 1)),(1,1,.c (.int .i64 1)),(4,1,.c (.int .i64 1))])<|q1 (.mks 17 1 z_9 [(0,.l 0)])<|q1 (.build z_7 [(0,1,.l 1)])<|qt 2 5 2<|qe) .ret
def F397 : F := mF 1 [.cell 2 (some 5)] none c397
attribute [go_sem] c397 F397
def l398_0 : C := .loop [] [] [5] [] (rs 13 (q3 (.bin .lss (.g 12) (.g 11))<|qe) <| sq (cd 13 .skip <| .exit 0) <| sq (bk 1 (rs 14 (q1 (.iad 9 (.g 10) (.g 12))<|qJ 9<|qG 5 z_12<|qs 5 9 2 1<|qe) <| r1 16 (qr 3 1<|qr 5 0<|qR 5 1 7<|qr 5 8<|q1 (.build z_12 [(0,1,.l 3),(1,7,.l 5),(8,1,.l 7)])<|q1 (.mks 9 1 z_12 [(0,.l 8)])<|q1 (.app 26 9 (.l 1) (.l 9))<|qf 3 1<|qs 3 1 11 10<|qe))) <| r1 28 (q1 (.bin .add (.g 12) (ci 1))<|qv 12<|qe))
def c398 : C := rs 0 (qB 1 0<|qG 2 z_11<|qe) <| rs 6 (qr 1 0<|q1 (.build [.int .i64 0,.nslice 9] [(0,1,.l 1)])<|qG 3 z_13<|qs 3 2 3 2<|qe) <| sq (rs 9 (qf 1 1<|q3 (.load (.v 1) none (.l 0))<|qH false<|q3 (.mov (ci 0))<|qe) <| bk 0 l398_0) <| rs 29 (qb 3 2<|qt 2 2 0<|qe) .ret
def F398 : F := mF 1 [.cell 2 (some 2)] none c398
attribute [go_sem] c398 F398
def c400 : C := rs 0 (qF 0<|qe) <| rs 10 (qC 395 [ci 1]<|q2 9 (.mov (.l 0))<|qx 0<|qy 1<|qG 1 z_11<|qs 1 2 4 2<|qV 2 3<|qe) <| rt 14 (qb 1 2<|qC 420 [ci 11,ci 1,ci 1]<|qC 413 [.l 0,ci 5,.l 1]<|q2 13 (.mov (.l 2))<|qx 0<|qy 1<|qG 3 z_11<|qs 3 2 6 4<|qV 4 5<|qe) <| rs 20 (qb 3 2<|qc 407<|q2 19 (.mov (.l 1))<|qx 0<|qy 1<|qD 5<|q1 (.alloc z_11)<|qs 5 2 5 3<|q3 (.mov (.l 4))<|qe) <| rs 25 (qb 3 2<|qC 406 [.l 0,ci 1]<|q2 24 (.mov (.l 1))<|qx 0<|qy 1<|qG 7 z_7<|qs 7 5 5 3<|qV 8 4<|qe) <| rs 29 (qm 2<|qk .eql 0<|ya<|qm 4<|qh false<|qk .eql 1<|za 2<|ya<|qm 4<|q1 (.iad 36 (.l 8) (ci 0))<|qg 0<|qj<|qk .eql 35<|za 7<|ya<|qm 4<|q1 (.iad 36 (.l 15) (ci 0))<|qg 2<|qj<|qk .eql 2<|za 14<|ya<|qm 6<|qh false<|qk .eql 1<|za 21<|ya<|qm 8<|za 26<|ya<|qr 7 0<|qh false<|qk .eql 1<|za 29<|qv 0<|qe) .ret
def F400 : F := mF 0 [.t 0] none c400
attribute [go_sem] c400 F400
def l401_0 : C := .loop [] [4,0,10400] [6] [20200] (rs 25 (q3 (.bin .lss (.g 24) (.g 23))<|qe) <| sq (cd 25 .skip <| .exit 0) <| sq (bk 1 (rs 26 (q1 (.iad 17 (.g 22) (.g 24))<|qJ 17<|qG 6 z_9<|qs 6 17 2 1<|qe) <| r1 28 (qb 6 17<|q1 (.rcall 423 [.g 4,.l 0] 0 4 20200)<|qe))) <| r1 30 (q1 (.bin .add (.g 24) (ci 1))<|qv 24<|qe))
def c401 : C := rs 0 (qB 1 0<|qE 2<|qz 3 0<|qe) <| i1 7 (qb 1 5<|qc 249<|qN<|qe) 9 (rs 0 (qE 2<|qz 3 1<|qe) .ret) <| rs 4 (q3 (.allo [.nslice 1] 10400)<|qe) <| rs 10 (qR 1 1 3<|q1 (.mks 3 1 z_2 [(0,.l 1)])<|q1 (.rcall 421 [.g 4,.l 2] 0 4 20000)<|qe) <| rs 14 (qr 1 4<|qr 1 0<|qh false<|q1 (.mks 1 2 [.int .i64 0] [(0,.l 1),(1,.l 4)])<|q1 (.rcall 422 [.g 4,.l 5] 0 4 20100)<|qe) <| sq (rs 21 (qf 1 0<|q3 (.load (.v 1) none (.l 0))<|qH false<|q3 (.mov (ci 0))<|qe) <| bk 0 l401_0) <| rs 31 (qr 4 0<|q1 (.b2s (.l 1))<|qv 2<|qz 3 0<|qe) .ret
def F401 : F := mF 1 [.t 2,.t 3] none c401
attribute [go_sem] c401 F401
def c406 : C := rs 0 (qB 2 0<|qG 4 z_7<|qF 5<|qe) <| rs 11 (qb 2 2<|qm 1<|qd 427<|q2 10 (.mov (.l 2))<|qx 0<|qy 1<|qG 6 z_12<|qs 6 9 6 4<|qV 7 5<|qe) <| i1 16 (qb 2 2<|qc 408<|qn<|yo<|qm 7<|qn<|zo 3<|yo<|qR 6 1 7<|qc 40<|qn<|zO 7<|qe) 28 (rs 29 (q1 (.build z_7 [])<|qt 4 5 0<|qF 5<|qe) .ret) <| rs 31 (qf 6 1<|qg 4<|ql 6<|qc 428<|q2 30 (.mov (.l 3))<|qx 0<|qy 1<|qG 8 z_7<|qs 8 5 7 5<|qD 9<|q1 (.mov (.l 6))<|qe) <| rs 37 (qb 8 5<|qt 4 5 0<|qT 5<|qe) .ret
def F406 : F := mF 2 [.cell 4 (some 5),.t 5] none c406
attribute [go_sem] c406 F406
def l407_0 : C := .loop [] [] [6] [] (rs 15 (q3 (.bin .lss (.g 14) (.g 13))<|qe) <| sq (cd 15 .skip <| .exit 0) <| sq (bk 1 (rs 16 (q1 (.iad 9 (.g 12) (.g 14))<|qJ 9<|qG 6 z_12<|qs 6 9 2 1<|qe) <| r2 18 (qm 4<|qr 6 0<|qR 6 1 7<|qc 51<|qC 429 (ls [2,5])<|q1 (.app 4 36 (.l 0) (.l 6))<|qv 4<|qe))) <| r1 26 (q1 (.bin .add (.g 14) (ci 1))<|qv 14<|qe))
def c407 : C := rs 0 (qB 1 0<|qG 2 z_11<|qS 3 36<|qe) <| rs 4 (q3 (.mko 36)<|qe) <| i1 7 (qb 1 2<|qc 408<|qN<|qe) 9 (rs 10 (qb 1 2<|qt 2 2 0<|qS 3 36<|qe) .ret) <| sq (rs 11 (qf 1 1<|q3 (.load (.v 1) none (.l 0))<|qH false<|q3 (.mov (ci 0))<|qe) <| bk 0 l407_0) <| rs 27 (qb 1 2<|qm 4<|qt 2 2 0<|qw 3<|qe) .ret
def F407 : F := mF 1 [.cell 2 (some 2),.t 3] none c407
attribute [go_sem] c407 F407
def l408_0 : C := .loop [] [] [5] [] (rs 10 (q3 (.bin .lss (.g 9) (.g 8))<|qe) <| sq (cd 10 .skip <| .exit 0) <| sq (bk 1 (rs 11 (q1 (.iad 9 (.g 7) (.g 9))<|qJ 9<|qG 5 z_12<|qs 5 9 2 1<|qe) <| i1 13 (qr 5 0<|qm 3<|qq .leq 1<|yo<|qr 5 0<|qc 368<|qn<|zo 4<|yo<|qf 5 1<|qg 0<|ql 5<|qr 1 0<|qq .neq 13<|zo 10<|yo<|qR 5 1 7<|qc 39<|qn<|zo 18<|yo<|qf 5 1<|qg 4<|ql 5<|qc 430<|qn<|zo 24<|yo<|qf 5 1<|qg 5<|ql 5<|qc 430<|qn<|zO 31<|qe) 50 (rs 0 (qF 2<|qe) .ret) <| i1 51 (qr 5 8<|qh false<|qk .gtr 0<|ya<|qR 5 1 7<|qc 41<|qn<|za 4<|yo<|qr 5 8<|q1 (.fn 431 [.g 1] [1])<|qd 432<|zO 10<|qe) 66 (rs 0 (qF 2<|qe) .ret) <| r1 67 (qr 5 0<|qv 3<|qe))) <| r1 69 (q1 (.bin .add (.g 9) (ci 1))<|qv 9<|qe))
def c408 : C := rs 0 (qB 1 0<|qF 2<|qe) <| rs 0 (qz 3 0<|qe) <| sq (rs 6 (qf 1 1<|q3 (.load (.v 1) none (.l 0))<|qH false<|q3 (.mov (ci 0))<|qe) <| bk 0 l408_0) <| rs 70 (qr 1 0<|qk .geq 1<|ya<|qr 1 0<|qk .leq 3<|za 3<|qv 2<|qe) .ret
def F408 : F := mF 1 [.t 2] none c408
attribute [go_sem] c408 F408
def l409_0 : C := .loop [] [] [] [] (lq 6 (qm 5<|qr 2 1<|qh false<|qQ .lss 0<|qe) 10 0 <| sq (bk 1 (rs 13 (qr 2 1<|qm 5<|qi 9<|qg 0<|qj<|qm 1<|qQ .eql 5<|qe) <| cd 20 (rs 21 (qm 5<|qv 4<|qe) .ret) .skip)) <| r1 11 (qm 5<|qk .add 1<|qv 5<|qe))
def c409 : C := rs 0 (qB 2 0<|qz 4 0<|qe) <| sq (rs 0 (qz 5 0<|qe) <| bk 0 l409_0) <| rs 0 (qz 4 (-1)<|qe) .ret
def F409 : F := mF 2 [.t 4] none c409
attribute [go_sem] c409 F409
def l411_0 : C := .loop [] [] [] [] (lq 19 (qm 7<|qm 6<|qq .lss 0<|ya<|qm 4<|q1 (.nilc (.l 4))<|qg 1<|ql 10<|qn<|zA 3<|qe) 28 0 <| sq (bk 1 (r2 31 (qr 5 0<|qm 4<|q1 (.rcall 436 [.l 2] 0 10 20300)<|q1 (.mks 17 1 z_9 [(0,.l 3)])<|q1 (.app 36 17 (.l 1) (.l 4))<|qf 5 0<|qs 5 1 6 5<|qe))) <| r1 29 (qm 7<|qk .add 1<|qv 7<|qe))
def c411 : C := rs 0 (qG 2 z_7<|qF 3<|qe) <| rs 8 (qm 0<|q1 (.build z_14 [(0,1,.l 0)])<|q1 (.box (.l 1))<|qv 4<|qe) <| rs 11 (qm 4<|q1 (.rcall 434 [.l 0] 0 10 20000)<|q1 (.build [.nslice 17,.int .i64 0,.int .i64 0,.int .i64 0,.int .i64 0] [(1,3,.l 1)])<|qG 5 z_15<|qs 5 5 3 2<|qe) <| rs 14 (qm 4<|q1 (.rcall 435 [.l 0] 0 10 20100)<|qf 5 4<|qs 5 1 2 1<|qe) <| rs 17 (qm 4<|q1 (.rcall 435 [.l 0] 0 10 20200)<|qv 6<|qe) <| sq (rs 0 (qz 7 0<|qe) <| bk 0 l411_0) <| i1 38 (qm 4<|q1 (.nilc (.l 0))<|qg 1<|ql 10<|yo<|qb 5 5<|q1 (.call (.k 246) .borrow none [.l 5])<|qn<|zo 4<|yo<|qb 5 5<|q1 (.call (.k 424) .borrow none [.l 10])<|qm 0<|qq .neq 11<|zO 9<|qe) 52 (rs 53 (q1 (.build z_7 [])<|qt 2 5 0<|qF 3<|qe) .ret) <| rs 54 (qb 5 5<|qt 2 5 0<|qT 3<|qe) .ret
def F411 : F := mF 1 [.cell 2 (some 5),.t 3] none c411
attribute [go_sem] c411 F411
def r413_0 : List Op := (qB 3 0<|qB 5 2<|qG 6 z_11<|qS 7 36<|qe) 0 0 none
def r413_1 : List Op := (qb 3 2<|qc 408<|qn<|yo<|qb 5 36<|qc 341<|qn<|zo 3<|yo<|qm 1<|qk .lss 0<|zo 8<|yo<|qm 1<|qk .gtr 1099511627776<|zo 12<|yo<|qr 5 2<|qr 3 0<|qq .neq 18<|zO 16<|qe) 14 0 none
def r413_2 : List Op := (qb 3 2<|qt 6 2 0<|qS 7 36<|qe) 37 0 none
def r413_3 : List Op := (qf 5 0<|q3 (.load (.v 5) none (.l 0))<|qe) 38 0 none
def r413_4 : List Op := (q1 (.bin .eql (.g 39) (ci 35))<|qv 40<|qe) 41 0 none
def r413_5 : List Op := (q1 (.bin .eql (.g 39) (ci 36))<|qv 40<|qe) 42 0 none
def r413_6 : List Op := (q1 (.bin .eql (.g 39) (ci 37))<|qv 40<|qe) 43 0 none
def r413_7 : List Op := (qb 3 2<|qb 5 36<|qd 437<|qx 0<|qy 1<|qt 6 2 3<|qw 7<|qe) 44 0 none
def r413_8 : List Op := (q1 (.bin .eql (.g 39) (ci 33))<|qv 49<|qe) 50 0 none
def r413_9 : List Op := (qb 3 2<|qb 5 36<|qd 438<|qx 0<|qy 1<|qt 6 2 3<|qw 7<|qe) 51 0 none
def r413_10 : List Op := (qb 3 2<|qr 5 7<|qC 427 (ls [0,2])<|q2 56 (.mov (.l 3))<|qx 0<|qy 1<|qG 8 z_12<|qs 8 9 7 5<|qV 9 6<|qe) 57 0 none
def r413_11 : List Op := (qm 9<|qn<|yo<|qR 8 1 7<|qc 40<|qn<|zO 2<|qe) 63 0 none
def r413_12 : List Op := (qr 5 0<|qK .eql 1<|qe) 71 0 none
def r413_13 : List Op := (qb 3 2<|qb 3 2<|qb 5 36<|q1 (.build z_8 [(0,1,.c (.int .i64 10))])<|qC 439 (ls [1,2,3])<|q1 (.mks 36 1 z_16 [(0,.l 4)])<|qt 6 2 0<|qw 7<|qe) 74 0 none
def r413_14 : List Op := (qb 3 2<|qt 6 2 0<|qS 7 36<|qe) 80 0 none
def r413_15 : List Op := (qR 8 1 7<|q3 (.call (.k 41) .no none [.l 1])<|qe) 81 0 none
def r413_16 : List Op := (qb 3 2<|qt 6 2 0<|qS 7 36<|qe) 84 0 none
def r413_17 : List Op := (qf 8 1<|qg 4<|ql 8<|qc 428<|q2 85 (.mov (.l 3))<|qx 0<|qy 1<|qG 10 z_7<|qs 10 5 7 5<|qD 11<|q1 (.mov (.l 6))<|qe) 86 0 none
def r413_18 : List Op := (qf 5 0<|q3 (.load (.v 5) none (.l 0))<|qe) 92 0 none
def r413_19 : List Op := (q1 (.bin .eql (.g 93) (ci 1))<|qv 94<|qe) 95 0 none
def r413_20 : List Op := (qb 3 2<|qb 8 9<|qb 10 5<|qm 1<|qb 5 36<|qC 440 (ls [0,1,2,3,4])<|qx 0<|qy 1<|qt 6 2 6<|qw 7<|qe) 96 0 none
def r413_21 : List Op := (q1 (.bin .eql (.g 93) (ci 14))<|qv 104<|qe) 105 0 none
def r413_22 : List Op := (qb 3 2<|qb 3 2<|qb 10 5<|qb 5 36<|qC 441 (ls [1,2,3])<|qt 6 2 0<|qw 7<|qe) 106 0 none
def r413_23 : List Op := (q1 (.bin .eql (.g 93) (ci 30))<|qv 111<|qe) 112 0 none
def r413_24 : List Op := (qR 5 9 3<|qR 10 1 3<|qC 15 (ls [1,3])<|qK .leq 0<|qe) 113 0 none
def r413_25 : List Op := (qb 3 2<|qr 3 0<|qr 5 7<|qR 10 1 3<|q1 (.build z_16 [(0,1,.c (.int .i64 31)),(1,1,.l 2),(7,1,.l 4),(9,3,.l 6)])<|q1 (.mks 36 1 z_16 [(0,.l 7)])<|qt 6 2 0<|qw 7<|qe) 119 0 none
def r413_26 : List Op := (qb 3 2<|qb 8 9<|qb 10 5<|qR 5 9 3<|qC 261 (ls [2,4])<|qr 3 0<|qr 5 7<|qR 5 9 3<|q1 (.build z_16 [(0,1,.c (.int .i64 31)),(1,1,.l 7),(7,1,.l 9),(9,3,.l 11)])<|q1 (.mks 36 1 z_16 [(0,.l 12)])<|qC 442 (ls [0,1,5,13])<|qx 0<|qy 1<|qt 6 2 15<|qw 7<|qe) 128 0 none
def r413_27 : List Op := (q1 (.bin .eql (.g 93) (ci 32))<|qv 145<|qe) 146 0 none
def r413_28 : List Op := (qb 3 2<|qb 8 9<|qb 10 5<|qb 5 36<|qC 443 (ls [0,1,2,3])<|qx 0<|qy 1<|qt 6 2 5<|qw 7<|qe) 147 0 none
def r413_29 : List Op := (qb 3 2<|qb 10 5<|qb 5 36<|qC 444 (ls [0,1,2])<|q2 154 (.mov (.l 3))<|qx 0<|qy 1<|qY 4 2<|qG 12 z_7<|qG 13 z_16<|qs 12 5 8 5<|qs 13 36 9 6<|qV 9 7<|qe) 155 0 none
def r413_30 : List Op := (qm 9<|qN<|qe) 162 0 none
def r413_31 : List Op := (qb 3 2<|qt 6 2 0<|qS 7 36<|qe) 164 0 none
def r413_32 : List Op := (qr 3 0<|qr 5 7<|qf 13 1<|qs 13 1 4 1<|qf 13 7<|qs 13 1 6 3<|qe) 165 0 none
def r413_33 : List Op := (qb 3 2<|qb 8 9<|qb 12 5<|qb 13 36<|q1 (.mks 36 1 z_16 [(0,.l 3)])<|qC 442 (ls [0,1,2,4])<|qx 0<|qy 1<|qt 6 2 6<|qw 7<|qe) 171 0 none
def c413 : C := sq (.region false r413_0) <| sq (sq (.region false r413_1) <| cd 36 (sq (.region false r413_2) .ret) .skip) <| sq (sq (.region false r413_3) <| bk 0 (sq (sq (.region false r413_4) <| cd 40 .skip <| sq (.region false r413_5) <| cd 40 .skip <| .region false r413_6) <| cd 40 (sq (.region false r413_7) .ret) <| sq (.region false r413_8) <| cd 49 (sq (.region false r413_9) .ret) .skip)) <| sq (.region false r413_10) <| sq (sq (.region false r413_11) <| cd 70 (sq (sq (.region false r413_12) <| cd 73 (sq (.region true r413_13) .ret) .skip) <| sq (.region false r413_14) .ret) .skip) <| sq (sq (.region false r413_15) <| cd 83 (sq (.region false r413_16) .ret) .skip) <| sq (.region false r413_17) <| sq (sq (.region false r413_18) <| bk 1 (sq (.region false r413_19) <| cd 94 (sq (.region false r413_20) .ret) <| sq (.region false r413_21) <| cd 104 (sq (.region true r413_22) .ret) <| sq (.region false r413_23) <| cd 111 (sq (sq (.region false r413_24) <| cd 118 (sq (.region true r413_25) .ret) .skip) <| sq (.region true r413_26) .ret) <| sq (.region false r413_27) <| cd 145 (sq (.region false r413_28) .ret) .skip)) <| sq (.region false r413_29) <| sq (sq (.region false r413_30) <| cd 163 (sq (.region false r413_31) .ret) .skip) <| sq (.region true r413_32) <| sq (.region false r413_33) .ret
def F413 : F := mF 3 [.cell 6 (some 2),.t 7] none c413
attribute [go_sem] r413_0 r413_1 r413_2 r413_3 r413_4 r413_5 r413_6 r413_7 r413_8 r413_9 r413_10 r413_11 r413_12 r413_13 r413_14 r413_15 r413_16 r413_17 r413_18 r413_19 r413_20 r413_21 r413_22 r413_23 r413_24 r413_25 r413_26 r413_27 r413_28 r413_29 r413_30 r413_31 r413_32 r413_33 c413 F413
def c417 : C := rs 0 (qB 4 1<|qF 6<|qe) <| rs 16 (qr 4 1<|q1 (.conv (.int .u64) (.l 1))<|q1 (.bin .rem (.l 2) (.c (.int .u64 3)))<|q1 (.conv (.int .i64) (.l 3))<|qv 7<|qe) <| rs 21 (qr 4 3<|q1 (.conv (.int .u64) (.l 1))<|q1 (.bin .rem (.l 2) (.c (.int .u64 100)))<|q1 (.conv (.int .i64) (.l 3))<|qv 8<|qe) <| sq (rs 26 (qr 4 0<|q1 (.conv (.int .u64) (.l 1))<|q1 (.bin .rem (.l 2) (.c (.int .u64 13)))<|qv 9<|qe) <| bk 0 (rs 76 (qm 9<|q1 (.bin .lss (.l 0) (.c (.int .u64 4)))<|qv 75<|qe) <| cd 75 (rs 78 (qR 4 4 12<|qG 10 z_17<|qs 10 12 2 1<|qe) <| rs 80 (qm 2<|qk .add 1<|qf 10 0<|qu 10 2 1<|qf 10 1<|qs 10 1 4 1<|qe) <| rt 84 (qm 0<|qm 0<|q1 (.nilc (.l 1))<|qg 7<|ql 0<|qb 10 12<|q1 (.mks 12 1 z_17 [(0,.l 5)])<|q1 (.appd 12 (.l 4) (.l 6))<|q1 (.nilc (.l 0))<|qg 7<|qs 0 1 9 7<|qe) <| rs 94 (qm 0<|qm 7<|qk .add 1<|qb 10 12<|q1 (.build z_16 [(0,1,.c (.int .i64 1)),(1,1,.c (.int .i64 11)),(2,1,.l 2),(7,1,.c (.int .i64 1)),(3,1,.c (.int .i64 1)),(4,1,.c (.int .i64 1)),(13,12,.l 3)])<|qm 8<|q1 (.rcall 453 [.l 0,.l 4,.l 5] 0 0 20000)<|qv 6<|qe) .ret) <| rs 102 (qm 9<|q1 (.bin .eql (.l 0) (.c (.int .u64 12)))<|qv 101<|qe) <| cd 101 (rs 105 (qm 0<|qm 7<|q1 (.nilc (.l 0))<|qg 0<|q1 (.iada 2 3 (.l 3) (.l 1))<|q1 (.load (.v 0) (some 2) (.l 4))<|q1 (.call (.k 407) .freeze none [.l 5])<|q2 104 (.mov (.l 6))<|qx 0<|qy 1<|qG 11 z_11<|qs 11 2 10 8<|qV 12 9<|qe) <| rt 114 (qm 0<|qm 7<|qb 11 2<|q1 (.nilc (.l 0))<|qg 0<|q1 (.iada 2 3 (.l 4) (.l 1))<|qs 0 2 5 2<|qe) <| rs 120 (qm 0<|qm 12<|q1 (.rcall 454 [.l 0,.l 1] 0 0 20100)<|qv 6<|qe) .ret) <| rs 124 (qm 0<|q1 (.nilc (.l 0))<|qg 6<|ql 0<|qh false<|qk .eql 0<|qv 123<|qe) <| cd 123 .skip <| rt 30 (qr 4 2<|q1 (.conv (.int .u64) (.l 1))<|qm 0<|q1 (.nilc (.l 3))<|qg 6<|ql 0<|qh false<|q1 (.conv (.int .u64) (.l 7))<|qq .rem 2<|q1 (.conv (.int .i64) (.l 9))<|qv 13<|qe) <| rs 41 (qm 0<|q1 (.nilc (.l 0))<|qg 6<|ql 0<|qm 13<|qi 36<|q1 (.load (.x) (some 36) (.l 5))<|qG 14 z_16<|qs 14 36 7 6<|qe) <| i1 48 (qm 9<|q3 (.bin .neq (.l 0) (.c (.int .u64 11)))<|qe) 49 (rs 15 (q3 (.mkoz 36 9006)<|qe) <| r2 50 (qm 0<|qm 15<|qm 0<|q1 (.nilc (.l 2))<|qg 6<|ql 0<|qm 13<|q1 (.slr 9006 36 (.l 5) none (some (.l 6)))<|q1 (.app 15 36 (.l 1) (.l 7))<|qm 0<|q1 (.nilc (.l 9))<|qg 6<|ql 0<|qm 13<|qk .add 1<|q1 (.slr 9006 36 (.l 12) (some (.l 14)) none)<|q1 (.app 15 36 (.l 8) (.l 15))<|q1 (.nilc (.l 0))<|qg 6<|qs 0 1 18 16<|qe)) <| rs 69 (qm 9<|q3 (.bin .neq (.l 0) (.c (.int .u64 10)))<|qe) <| cd 70 (rs 71 (qm 0<|qb 14 36<|qm 8<|q1 (.rcall 453 [.l 0,.l 1,.l 2] 0 0 20200)<|qv 6<|qe) .ret) .skip)) <| rs 0 (qT 6<|qe) .ret
def F417 : F := mF 3 [.t 6] none c417
attribute [go_sem] c417 F417
def c420 : C := rs 0 (qG 6 z_16<|qe) <| rs 7 (qm 0<|qm 1<|qm 2<|q1 (.build z_17 [(0,1,.c (.int .i64 1)),(1,1,.l 2),(2,1,.c (.int .i64 1)),(3,1,.c (.str [97])),(4,1,.c (.str [120]))])<|q1 (.build z_16 [(0,1,.c (.int .i64 1)),(1,1,.l 0),(2,1,.l 1),(7,1,.c (.int .i64 1)),(3,1,.c (.int .i64 1)),(4,1,.c (.int .i64 1)),(13,12,.l 3)])<|qt 6 36 4<|qe) .ret
def F420 : F := mF 3 [.cell 6 (some 36)] none c420
attribute [go_sem] c420 F420
def l421_0 : C := .loop [] [0,0,9000] [5] [] (rs 11 (q3 (.bin .lss (.g 10) (.g 9))<|qe) <| sq (cd 11 .skip <| .exit 0) <| sq (bk 1 (rs 12 (q1 (.iad 3 (.g 8) (.g 10))<|qJ 3<|qG 5 z_2<|qs 5 3 2 1<|qe) <| rs 15 (qb 5 3<|qc 455<|q2 14 (.mov (.l 1))<|qx 0<|qy 1<|qw 6<|qD 7<|q1 (.mov (.l 4))<|qe) <| r1 19 (qm 0<|qm 0<|q1 (.nilc (.l 1))<|qg 0<|ql 0<|qm 6<|q1 (.appd 1 (.l 4) (.l 5))<|q1 (.nilc (.l 0))<|qg 0<|qs 0 1 8 6<|qe))) <| r1 28 (q1 (.bin .add (.g 10) (ci 1))<|qv 10<|qe))
def c421 : C := rs 8 (q3 (.mov (.g 1))<|qH false<|q3 (.mov (ci 0))<|qe) <| bk 0 l421_0
def F421 : F := mF 2 [] none c421
attribute [go_sem] c421 F421
def l422_0 : C := .loop [] [0,0,9000] [] [] (rs 11 (q3 (.bin .lss (.g 10) (.g 9))<|qe) <| sq (cd 11 .skip <| .exit 0) <| sq (bk 1 (rs 12 (q1 (.iad 1 (.g 8) (.g 10))<|qj<|qv 5<|qe) <| rs 15 (qm 5<|qc 456<|q2 14 (.mov (.l 1))<|qx 0<|qy 1<|qw 6<|qD 7<|q1 (.mov (.l 4))<|qe) <| r1 19 (qm 0<|qm 0<|q1 (.nilc (.l 1))<|qg 0<|ql 0<|qm 6<|q1 (.appd 1 (.l 4) (.l 5))<|q1 (.nilc (.l 0))<|qg 0<|qs 0 1 8 6<|qe))) <| r1 28 (q1 (.bin .add (.g 10) (ci 1))<|qv 10<|qe))
def c422 : C := rs 8 (q3 (.mov (.g 1))<|qH false<|q3 (.mov (ci 0))<|qe) <| bk 0 l422_0
def F422 : F := mF 2 [] none c422
attribute [go_sem] c422 F422
def l423_1 : C := .loop [] [0,0,9000] [7] [20600,20700,20800] (rs 71 (q3 (.bin .lss (.g 70) (.g 69))<|qe) <| sq (cd 71 .skip <| .exit 2) <| sq (bk 3 (rs 72 (q1 (.iad 5 (.g 68) (.g 70))<|qJ 5<|qG 7 z_1<|qs 7 5 2 1<|qe) <| rs 74 (qm 0<|qR 7 0 3<|q1 (.mks 3 1 z_2 [(0,.l 2)])<|q1 (.rcall 421 [.l 0,.l 3] 0 0 20600)<|qe) <| rs 79 (qm 0<|qr 7 3<|q1 (.rcall 458 [.l 0,.l 2] 0 0 20700)<|qe) <| r1 83 (qm 0<|qr 7 4<|q1 (.mks 1 1 [.str []] [(0,.l 2)])<|q1 (.rcall 457 [.l 0,.l 3] 0 0 20800)<|qe))) <| r1 88 (q1 (.bin .add (.g 70) (ci 1))<|qv 70<|qe))
def l423_0 : C := .loop [] [0,0,9000] [5,7] [20400,20500,20600,20700,20800] (rs 53 (q3 (.bin .lss (.g 52) (.g 51))<|qe) <| sq (cd 53 .skip <| .exit 0) <| sq (bk 1 (rs 54 (q1 (.iad 2 (.g 50) (.g 52))<|qJ 2<|qG 5 z_6<|qs 5 2 2 1<|qe) <| rs 56 (qm 0<|qr 5 0<|q1 (.mks 1 1 [.str []] [(0,.l 2)])<|q1 (.rcall 457 [.l 0,.l 3] 0 0 20400)<|qe) <| rs 61 (qm 0<|qr 5 1<|qh false<|q1 (.mks 1 1 [.int .i64 0] [(0,.l 3)])<|q1 (.rcall 422 [.l 0,.l 4] 0 0 20500)<|qe) <| rs 67 (qf 5 1<|q3 (.load (.v 5) none (.l 0))<|qH false<|q3 (.mov (ci 0))<|qe) <| bk 2 l423_1)) <| r1 89 (q1 (.bin .add (.g 52) (ci 1))<|qv 52<|qe))
def l423_2 : C := .loop [] [0,0,9000] [9] [21000,21100,21200,21300] (rs 100 (q3 (.bin .lss (.g 99) (.g 98))<|qe) <| sq (cd 100 .skip <| .exit 4) <| sq (bk 5 (rs 101 (q1 (.iad 11 (.g 97) (.g 99))<|qJ 11<|qG 9 z_3<|qs 9 11 2 1<|qe) <| rs 103 (qm 0<|qr 9 0<|qr 9 1<|qf 9 2<|qg 0<|ql 9<|q1 (.mks 1 3 [.int .i64 0] [(0,.l 2),(1,.l 4),(2,.l 7)])<|q1 (.rcall 422 [.l 0,.l 8] 0 0 21000)<|qe) <| rs 113 (qm 0<|qf 9 2<|qg 1<|q1 (.load (.v 9) (some 3) (.l 2))<|q1 (.mks 3 1 z_2 [(0,.l 3)])<|q1 (.rcall 421 [.l 0,.l 4] 0 0 21100)<|qe) <| rs 119 (qm 0<|qf 9 2<|qg 4<|ql 9<|q1 (.rcall 458 [.l 0,.l 3] 0 0 21200)<|qe) <| r1 124 (qm 0<|qf 9 2<|qg 5<|ql 9<|q1 (.mks 1 1 [.str []] [(0,.l 3)])<|q1 (.rcall 457 [.l 0,.l 4] 0 0 21300)<|qe))) <| r1 130 (q1 (.bin .add (.g 99) (ci 1))<|qv 99<|qe))
def c423 : C := rs 0 (qB 3 1<|qe) <| rs 10 (qm 0<|qr 3 0<|qr 3 1<|qr 3 4<|qr 3 13<|qr 3 14<|qr 3 15<|qr 3 16<|q1 (.mks 1 7 [.int .i64 0] [(0,.l 2),(1,.l 4),(2,.l 6),(3,.l 8),(4,.l 10),(5,.l 12),(6,.l 14)])<|q1 (.rcall 422 [.l 0,.l 15] 0 0 20000)<|qe) <| rs 27 (qm 0<|qf 3 2<|qg 0<|ql 3<|qf 3 2<|qg 1<|ql 3<|q1 (.mks 1 2 [.str []] [(0,.l 3),(1,.l 6)])<|q1 (.rcall 457 [.l 0,.l 7] 0 0 20100)<|qe) <| rs 36 (qm 0<|qR 3 6 3<|qR 3 9 3<|q1 (.mks 3 2 z_2 [(0,.l 2),(1,.l 4)])<|q1 (.rcall 421 [.l 0,.l 5] 0 0 20200)<|qe) <| rs 43 (qm 0<|qr 3 5<|qh false<|q1 (.mks 1 1 [.int .i64 0] [(0,.l 3)])<|q1 (.rcall 422 [.l 0,.l 4] 0 0 20300)<|qe) <| sq (rs 49 (qf 3 5<|q3 (.load (.v 3) none (.l 0))<|qH false<|q3 (.mov (ci 0))<|qe) <| bk 0 l423_0) <| rs 90 (qm 0<|qr 3 12<|qh false<|q1 (.mks 1 1 [.int .i64 0] [(0,.l 3)])<|q1 (.rcall 422 [.l 0,.l 4] 0 0 20900)<|qe) <| rs 96 (qf 3 12<|q3 (.load (.v 3) none (.l 0))<|qH false<|q3 (.mov (ci 0))<|qe) <| bk 4 l423_2
def F423 : F := mF 2 [] none c423
attribute [go_sem] c423 F423
def l424_0 : C := .loop [] [] [] [] (lq 17 (qm 4<|qr 1 0<|qh false<|qQ .lss 0<|qe) 21 0 <| sq (bk 1 (r1 24 (qm 3<|qr 1 0<|qm 4<|qi 17<|qJ 17<|qc 461<|qq .add 0<|qv 3<|qe))) <| r1 22 (qm 4<|qk .add 1<|qv 4<|qe))
def c424 : C := rs 0 (qB 1 0<|qE 2<|qe) <| rt 5 (qR 1 1 3<|qc 459<|qr 1 4<|qc 460<|qq .add 2<|qr 1 0<|qh false<|qc 460<|qq .add 6<|qv 3<|qe) <| sq (rs 0 (qz 4 0<|qe) <| bk 0 l424_0) <| rs 32 (qm 3<|qv 2<|qe) .ret
def F424 : F := mF 1 [.t 2] none c424
attribute [go_sem] c424 F424
def c427 : C := rs 0 (qB 2 0<|qB 3 1<|qG 4 z_12<|qF 5<|qe) <| rs 7 (qr 2 1<|q1 (.fn 462 [.g 3] [3])<|qd 463<|qv 6<|qe) <| i1 11 (qm 6<|qK .lss 0<|qe) 12 (rs 13 (q1 (.load (.v 3) none (.g 3))<|qr 2 0<|q1 (.build z_4 [(0,1,.l 2)])<|q1 (.build z_12 [(0,1,.l 0),(1,7,.l 3)])<|qt 4 9 4<|qF 5<|qe) .ret) <| rs 18 (qr 2 1<|qm 6<|qi 9<|qJ 9<|qt 4 9 4<|qT 5<|qe) .ret
def F427 : F := mF 2 [.cell 4 (some 9),.t 5] none c427
attribute [go_sem] c427 F427
def l428_0 : C := .loop [] [] [] [] (rs 17 (q3 (.bin .lss (.g 16) (.g 15))<|qe) <| sq (cd 17 .skip <| .exit 0) <| sq (bk 1 (r2 18 (qr 5 0<|qm 4<|q1 (.rcall 467 [.l 2] 0 8 20300)<|q1 (.mks 17 1 z_9 [(0,.l 3)])<|q1 (.app 23 17 (.l 1) (.l 4))<|qf 5 0<|qs 5 1 6 5<|qe))) <| r1 25 (q1 (.bin .add (.g 16) (ci 1))<|qv 16<|qe))
def c428 : C := rs 0 (qG 2 z_7<|qz 3 0<|qe) <| rs 6 (qm 0<|q1 (.build z_14 [(0,1,.l 0)])<|q1 (.box (.l 1))<|qv 4<|qe) <| rs 9 (qm 4<|q1 (.rcall 464 [.l 0] 0 8 20000)<|qm 4<|q1 (.rcall 465 [.l 2] 0 8 20100)<|q1 (.build [.nslice 17,.int .i64 0,.int .i64 0,.int .i64 0,.int .i64 0] [(1,3,.l 1),(4,1,.l 3)])<|qG 5 z_15<|qs 5 5 5 4<|qe) <| sq (rs 14 (qm 4<|q3 (.rcall 466 [.l 0] 0 8 20200)<|q3 (.mov (ci 0))<|qe) <| bk 0 l428_0) <| i1 26 (qm 4<|q1 (.nilc (.l 0))<|qg 1<|ql 8<|yo<|qm 4<|q1 (.nilc (.l 5))<|qg 0<|ql 8<|q1 (.bin .neq (.l 8) (.c (.str [])))<|zo 4<|yo<|qb 5 5<|q1 (.call (.k 249) .borrow none [.l 12])<|qn<|zO 11<|qe) 41 (rs 42 (q1 (.build z_7 [])<|qt 2 5 0<|qz 3 3<|qe) .ret) <| rs 43 (qb 5 5<|qt 2 5 0<|qz 3 0<|qe) .ret
def F428 : F := mF 1 [.cell 2 (some 5),.t 3] none c428
attribute [go_sem] c428 F428
def l429_0 : C := .loop [] [] [7] [] (rs 11 (q3 (.bin .lss (.g 10) (.g 9))<|qe) <| sq (cd 11 .skip <| .exit 0) <| sq (bk 1 (rs 12 (q1 (.iad 7 (.g 8) (.g 10))<|qJ 7<|qG 7 z_5<|qs 7 7 2 1<|qe) <| r1 14 (qm 5<|qr 7 0<|q1 (.bin .add (ci 35) (.l 2))<|qk .sub 1<|qr 7 1<|qr 7 2<|qm 0<|qr 7 3<|qr 7 4<|qr 7 5<|qr 7 6<|q1 (.build z_16 [(0,1,.l 4),(1,1,.l 6),(2,1,.l 8),(7,1,.l 9),(4,1,.l 11),(8,1,.l 13),(35,1,.l 15),(12,1,.l 17)])<|q1 (.mks 36 1 z_16 [(0,.l 18)])<|q1 (.app 5 36 (.l 0) (.l 19))<|qv 5<|qe))) <| r1 35 (q1 (.bin .add (.g 10) (ci 1))<|qv 10<|qe))
def c429 : C := rs 0 (qS 4 36<|qe) <| rs 5 (q3 (.mko 36)<|qe) <| sq (rs 8 (q3 (.mov (.g 1))<|qH false<|q3 (.mov (ci 0))<|qe) <| bk 0 l429_0) <| rs 36 (qm 5<|qv 4<|qe) .ret
def F429 : F := mF 2 [.t 4] (some 0) c429
attribute [go_sem] c429 F429
def c430 : C := rs 0 (qF 2<|qe) <| rs 6 (qm 0<|qc 428<|q2 5 (.mov (.l 1))<|qx 0<|qy 1<|qD 3<|q1 (.alloc z_7)<|qs 3 5 5 3<|q3 (.mov (.l 4))<|qe) <| rs 10 (qm 4<|qk .eql 0<|qv 2<|qe) .ret
def F430 : F := mF 1 [.t 2] none c430
attribute [go_sem] c430 F430
def c431 : C := rs 0 (qB 2 0<|qF 3<|qe) <| rs 4 (qb 2 36<|qc 341<|qn<|yo<|qr 2 1<|qf 1 0<|qj<|qq .neq 5<|zo 3<|qv 3<|qe) .ret
def F431 : F := mF 2 [.t 3] none c431
attribute [go_sem] c431 F431
def c432 : C := rs 0 (qF 4<|qe) <| rs 5 (qm 0<|qm 1<|qd 468<|qk .geq 0<|qv 4<|qe) .ret
def F432 : F := mF 2 [.t 4] none c432
attribute [go_sem] c432 F432
def c434 : C := rs 0 (qG 2 z_2<|qe) <| rs 7 (qm 0<|q1 (.nilc (.l 0))<|qg 0<|ql 0<|qc 469<|q2 6 (.mov (.l 4))<|qx 0<|qy 1<|qY 5 2<|qG 3 z_2<|qs 3 3 9 6<|qV 4 7<|qV 5 8<|qe) <| rs 15 (qm 0<|qm 0<|q1 (.nilc (.l 1))<|qg 1<|ql 0<|yo<|qm 5<|qk .neq 0<|zo 5<|q1 (.nilc (.l 0))<|qg 1<|qs 0 1 10 8<|qe) <| rs 26 (qm 0<|qm 4<|q1 (.nilc (.l 0))<|qg 0<|qs 0 1 3 1<|qe) <| rs 30 (qb 3 3<|qt 2 3 0<|qe) .ret
def F434 : F := mF 1 [.cell 2 (some 3)] none c434
attribute [go_sem] c434 F434
def c435 : C := rs 0 (qz 2 0<|qe) <| rs 7 (qm 0<|q1 (.nilc (.l 0))<|qg 0<|ql 0<|qc 470<|q2 6 (.mov (.l 4))<|qx 0<|qy 1<|qY 5 2<|qV 3 6<|qV 4 7<|qV 5 8<|qe) <| rs 15 (qm 0<|qm 0<|q1 (.nilc (.l 1))<|qg 1<|ql 0<|yo<|qm 5<|qk .neq 0<|zo 5<|q1 (.nilc (.l 0))<|qg 1<|qs 0 1 10 8<|qe) <| rs 26 (qm 0<|qm 4<|q1 (.nilc (.l 0))<|qg 0<|qs 0 1 3 1<|qe) <| rs 30 (qm 3<|qv 2<|qe) .ret
def F435 : F := mF 1 [.t 2] none c435
attribute [go_sem] c435 F435
def l436_1 : C := .loop [] [] [9] [] (lq 66 (qm 8<|qm 7<|qq .lss 0<|ya<|qm 0<|q1 (.nilc (.l 4))<|qg 1<|ql 0<|qn<|zA 3<|qe) 75 2 <| sq (bk 3 (rs 78 (qm 0<|q1 (.rcall 434 [.l 0] 0 0 21400)<|q1 (.build z_1 [(0,3,.l 1)])<|qG 9 z_1<|qs 9 5 3 2<|qe) <| rs 81 (qm 0<|q1 (.rcall 472 [.l 0] 0 0 21500)<|qf 9 3<|qs 9 1 2 1<|qe) <| rs 84 (qm 0<|q1 (.rcall 471 [.l 0] 0 0 21600)<|qf 9 4<|qs 9 1 2 1<|qe) <| r1 87 (qr 6 1<|qb 9 5<|q1 (.mks 5 1 z_1 [(0,.l 2)])<|q1 (.app 91 5 (.l 1) (.l 3))<|qf 6 1<|qs 6 1 5 4<|qe))) <| r1 76 (qm 8<|qk .add 1<|qv 8<|qe))
def l436_0 : C := .loop [] [] [6,9] [91] (lq 49 (qm 5<|qm 4<|qq .lss 0<|ya<|qm 0<|q1 (.nilc (.l 4))<|qg 1<|ql 0<|qn<|zA 3<|qe) 58 0 <| sq (bk 1 (rs 61 (qm 0<|q1 (.rcall 471 [.l 0] 0 0 21200)<|q1 (.build [.str [],.nslice 5] [(0,1,.l 1)])<|qG 6 z_18<|qs 6 2 3 2<|qe) <| rs 64 (qm 0<|q1 (.rcall 435 [.l 0] 0 0 21300)<|qv 7<|qe) <| sq (rs 0 (qz 8 0<|qe) <| bk 2 l436_1) <| r1 93 (qr 3 5<|q1 (.ldf 91 6 2 (.g 6))<|q1 (.mks 2 1 z_6 [(0,.l 2)])<|q1 (.app 97 2 (.l 1) (.l 3))<|qf 3 5<|qs 3 1 5 4<|qe))) <| r1 59 (qm 5<|qk .add 1<|qv 5<|qe))
def l436_2 : C := .loop [] [] [11] [] (lq 101 (qm 10<|qm 4<|qq .lss 0<|ya<|qm 0<|q1 (.nilc (.l 4))<|qg 1<|ql 0<|qn<|zA 3<|qe) 110 4 <| sq (bk 5 (rs 113 (qm 0<|q1 (.rcall 435 [.l 0] 0 0 21800)<|q1 (.build z_3 [(0,1,.l 1)])<|qG 11 z_3<|qs 11 11 3 2<|qe) <| rs 116 (qm 0<|q1 (.rcall 435 [.l 0] 0 0 21900)<|qf 11 1<|qs 11 1 2 1<|qe) <| rs 119 (qm 0<|q1 (.rcall 435 [.l 0] 0 0 22000)<|qf 11 2<|qg 0<|qs 11 1 3 1<|qe) <| rs 123 (qm 0<|q1 (.rcall 434 [.l 0] 0 0 22100)<|qf 11 2<|qg 1<|qs 11 3 3 1<|qe) <| rs 127 (qm 0<|q1 (.rcall 472 [.l 0] 0 0 22200)<|qf 11 2<|qg 4<|qs 11 1 3 1<|qe) <| rs 131 (qm 0<|q1 (.rcall 471 [.l 0] 0 0 22300)<|qf 11 2<|qg 5<|qs 11 1 3 1<|qe) <| r1 135 (qr 3 12<|qb 11 11<|q1 (.mks 11 1 z_3 [(0,.l 2)])<|q1 (.app 139 11 (.l 1) (.l 3))<|qf 3 12<|qs 3 1 5 4<|qe))) <| r1 111 (qm 10<|qk .add 1<|qv 10<|qe))
def c436 : C := rs 0 (qG 2 z_9<|qe) <| rs 12 (qm 0<|q1 (.rcall 435 [.l 0] 0 0 20000)<|q1 (.build [.int .i64 0,.int .i64 0,.str [],.str [],.int .i64 0,.nslice 2,.int .i64 0,.int .i64 0,.int .i64 0,.int .i64 0,.int .i64 0,.int .i64 0,.nslice 11,.int .i64 0,.int .i64 0,.int .i64 0,.int .i64 0] [(0,1,.l 1)])<|qG 3 z_19<|qs 3 17 3 2<|qe) <| rs 15 (qm 0<|q1 (.rcall 435 [.l 0] 0 0 20100)<|qf 3 1<|qs 3 1 2 1<|qe) <| rs 18 (qm 0<|q1 (.rcall 435 [.l 0] 0 0 20200)<|qf 3 4<|qs 3 1 2 1<|qe) <| rs 21 (qm 0<|q1 (.rcall 435 [.l 0] 0 0 20300)<|qf 3 13<|qs 3 1 2 1<|qe) <| rs 24 (qm 0<|q1 (.rcall 435 [.l 0] 0 0 20400)<|qf 3 14<|qs 3 1 2 1<|qe) <| rs 27 (qm 0<|q1 (.rcall 435 [.l 0] 0 0 20500)<|qf 3 15<|qs 3 1 2 1<|qe) <| rs 30 (qm 0<|q1 (.rcall 435 [.l 0] 0 0 20600)<|qf 3 16<|qs 3 1 2 1<|qe) <| rs 33 (qm 0<|q1 (.rcall 471 [.l 0] 0 0 20700)<|qf 3 2<|qg 0<|qs 3 1 3 1<|qe) <| rs 37 (qm 0<|q1 (.rcall 471 [.l 0] 0 0 20800)<|qf 3 2<|qg 1<|qs 3 1 3 1<|qe) <| rs 41 (qm 0<|q1 (.rcall 434 [.l 0] 0 0 20900)<|qf 3 6<|qs 3 3 2 1<|qe) <| rs 44 (qm 0<|q1 (.rcall 434 [.l 0] 0 0 21000)<|qf 3 9<|qs 3 3 2 1<|qe) <| rs 47 (qm 0<|q1 (.rcall 435 [.l 0] 0 0 21100)<|qv 4<|qe) <| sq (rs 0 (qz 5 0<|qe) <| bk 0 l436_0) <| rs 99 (qm 0<|q1 (.rcall 435 [.l 0] 0 0 21700)<|qv 4<|qe) <| sq (rs 0 (qz 10 0<|qe) <| bk 4 l436_2) <| rs 141 (qb 3 17<|qt 2 17 0<|qe) .ret
def F436 : F := mF 1 [.cell 2 (some 17)] none c436
attribute [go_sem] c436 F436
def r437_0 : List Op := (qB 2 0<|qB 3 1<|qG 4 z_11<|qS 5 36<|qe) 0 0 none
def r437_1 : List Op := (qb 2 2<|qr 3 7<|qC 427 (ls [0,2])<|q2 12 (.mov (.l 3))<|qx 0<|qy 1<|qG 6 z_12<|qs 6 9 7 5<|qV 7 6<|qe) 13 0 none
def r437_2 : List Op := (qm 7<|qn<|ya<|qr 3 7<|qc 368<|qn<|zA 2<|qe) 19 0 none
def r437_3 : List Op := (qb 2 2<|qt 4 2 0<|qS 5 36<|qe) 27 0 none
def r437_4 : List Op := (qr 3 0<|qk .eql 35<|ya<|qr 3 12<|qc 430<|qn<|zA 3<|qe) 28 0 none
def r437_5 : List Op := (qb 2 2<|qt 4 2 0<|qS 5 36<|qe) 37 0 none
def r437_6 : List Op := (qR 6 1 7<|qc 41<|qv 8<|qe) 38 0 none
def r437_7 : List Op := (qR 6 1 7<|qr 3 0<|qk .sub 35<|qk .add 1<|qr 3 1<|qr 3 2<|qr 3 4<|qr 3 8<|qr 3 35<|qr 3 12<|q1 (.build z_5 [(0,1,.l 5),(1,1,.l 7),(2,1,.l 9),(3,1,.l 11),(4,1,.l 13),(5,1,.l 15),(6,1,.l 17)])<|qC 57 (ls [1,18])<|q2 41 (.mov (.l 19))<|qx 0<|qy 1<|qG 9 z_4<|qs 9 7 23 21<|qV 10 22<|qe) 42 0 none
def r437_8 : List Op := (qm 7<|qn<|ya<|qr 9 1<|qk .eql 0<|zA 2<|qe) 64 0 none
def r437_9 : List Op := (qb 2 2<|qt 4 2 0<|qS 5 36<|qe) 71 0 none
def r437_10 : List Op := (qr 3 7<|qm 10<|q1 (.call (.k 429) .no (some 0) [.l 1,.l 2])<|qv 11<|qe) 72 0 none
def r437_11 : List Op := (qb 9 7<|qf 6 1<|qs 6 7 1 0<|qe) 76 0 none
def r437_12 : List Op := (qb 9 7<|qc 41<|qN<|qe) 78 0 none
def r437_13 : List Op := (qm 8<|ya<|qb 9 7<|qc 40<|zA 1<|qe) 81 0 none
def r437_14 : List Op := (qm 11<|qr 6 8<|q1 (.app 75 36 (.l 0) (.l 2))<|qv 11<|qe) 86 0 none
def r437_15 : List Op := (qf 6 8<|q5 (.store (.v 6) 1 (.l 0) (.c (.slice 36 [])))<|qe) 90 0 none
def r437_16 : List Op := (qb 2 2<|qb 6 9<|qd 473<|qm 11<|qt 4 2 2<|qw 5<|qe) 91 0 none
def c437 : C := sq (.region false r437_0) <| sq (.region false r437_1) <| sq (sq (.region false r437_2) <| cd 26 (sq (.region false r437_3) .ret) .skip) <| sq (sq (.region false r437_4) <| cd 36 (sq (.region false r437_5) .ret) .skip) <| sq (.region false r437_6) <| sq (.region false r437_7) <| sq (sq (.region false r437_8) <| cd 70 (sq (.region false r437_9) .ret) .skip) <| sq (.region false r437_10) <| sq (.region false r437_11) <| sq (sq (.region false r437_12) <| cd 80 (sq (sq (.region false r437_13) <| cd 85 (.region false r437_14) .skip) <| .region false r437_15) .skip) <| sq (.region false r437_16) .ret
def F437 : F := mF 2 [.cell 4 (some 2),.t 5] none c437
attribute [go_sem] r437_0 r437_1 r437_2 r437_3 r437_4 r437_5 r437_6 r437_7 r437_8 r437_9 r437_10 r437_11 r437_12 r437_13 r437_14 r437_15 r437_16 c437 F437
def c438 : C := rs 0 (qB 2 0<|qB 3 1<|qG 4 z_11<|qS 5 36<|qe) <| rs 13 (qb 2 2<|qr 3 7<|qC 427 (ls [0,2])<|q2 12 (.mov (.l 3))<|qx 0<|qy 1<|qG 6 z_12<|qs 6 9 7 5<|qV 7 6<|qe) <| i1 19 (qm 7<|qN<|qe) 20 (rs 21 (qb 2 2<|qt 4 2 0<|qS 5 36<|qe) .ret) <| rs 23 (qR 6 1 7<|qr 3 4<|qr 3 35<|qC 54 (ls [1,3,5])<|q2 22 (.mov (.l 6))<|qx 0<|qy 1<|qY 7 2<|qG 8 z_4<|qs 8 7 11 8<|qV 9 9<|qV 10 10<|qe) <| i1 33 (qm 10<|qK .neq 0<|qe) 34 (rs 35 (qb 2 2<|qt 4 2 0<|qS 5 36<|qe) .ret) <| rs 36 (qr 2 0<|qr 3 7<|qr 3 4<|q1 (.build z_16 [(0,1,.c (.int .i64 34)),(1,1,.l 1),(7,1,.l 3),(4,1,.l 5),(8,1,.c (.int .i64 1))])<|qG 11 z_16<|qs 11 36 7 6<|qe) <| i1 43 (qb 8 7<|q3 (.call (.k 41) .no none [.l 0])<|qe) 44 (r1 45 (qf 11 8<|qu 11 0 0<|qe)) <| rs 46 (qb 8 7<|qf 6 1<|qs 6 7 1 0<|qf 6 8<|q5 (.store (.v 6) 1 (.l 3) (.c (.slice 36 [])))<|qe) <| rt 49 (qb 2 2<|qb 6 9<|qd 473<|qr 3 7<|qm 9<|q1 (.call (.k 429) .no (some 0) [.l 4,.l 5])<|qb 11 36<|q1 (.mks 36 1 z_16 [(0,.l 7)])<|q1 (.app 55 36 (.l 6) (.l 8))<|qt 4 2 2<|qw 5<|qe) .ret
def F438 : F := mF 2 [.cell 4 (some 2),.t 5] none c438
attribute [go_sem] c438 F438
def c439 : C := rs 0 (qB 3 0<|qB 4 1<|qB 5 2<|qG 6 z_16<|qe) <| rs 7 (qr 3 0<|qr 4 1<|qr 4 7<|qf 4 13<|qg 0<|ql 4<|qf 4 13<|qg 1<|ql 4<|q1 (.build z_17 [(0,1,.l 8),(1,1,.l 11)])<|qb 5 9<|q1 (.build z_16 [(0,1,.c (.int .i64 2)),(1,1,.l 1),(2,1,.l 3),(7,1,.l 5),(13,12,.l 12),(25,9,.l 13)])<|qt 6 36 14<|qe) .ret
def F439 : F := mF 3 [.cell 6 (some 36)] none c439
attribute [go_sem] c439 F439
def c440 : C := rs 0 (qB 5 0<|qB 6 1<|qB 7 2<|qB 9 4<|qG 10 z_11<|qS 11 36<|qe) <| rs 18 (qR 7 1 3<|qG 12 z_2<|qs 12 3 2 1<|qe) <| rs 20 (qr 5 0<|qf 12 2<|qs 12 1 2 1<|qe) <| rs 24 (qb 12 3<|q1 (.build z_2 [(0,3,.l 0)])<|qm 3<|qd 474<|q2 23 (.mov (.l 3))<|qx 0<|qy 1<|qY 4 2<|qD 13<|q1 (.alloc z_2)<|q3 (.alloc z_2)<|qs 13 3 8 5<|qs 14 3 9 6<|q3 (.mov (.l 7))<|qe) <| i1 31 (qm 15<|qK .neq 0<|qe) 32 (rt 33 (qb 5 2<|qb 5 2<|qb 9 36<|qm 15<|q1 (.build z_8 [(0,1,.l 3)])<|qC 439 (ls [1,2,4])<|q1 (.mks 36 1 z_16 [(0,.l 5)])<|qt 10 2 0<|qw 11<|qe) .ret) <| rs 41 (qb 7 5<|qr 9 3<|qr 9 4<|qR 9 13 12<|qb 14 3<|qm 3<|qC 240 (ls [0,2,4,6,7,8])<|q2 40 (.mov (.l 9))<|qx 0<|qy 1<|qG 16 z_7<|qG 17 z_8<|qs 16 5 13 11<|qs 17 9 14 12<|qe) <| i1 53 (qr 17 0<|qk .neq 0<|ya<|qr 17 0<|qk .neq 15<|zA 3<|qe) 60 (rt 61 (qb 5 2<|qb 5 2<|qb 9 36<|qb 17 9<|qC 439 (ls [1,2,3])<|q1 (.mks 36 1 z_16 [(0,.l 4)])<|qt 10 2 0<|qw 11<|qe) .ret) <| rt 67 (qb 5 2<|qb 6 9<|qb 16 5<|qb 5 2<|qb 9 36<|qb 17 9<|qC 439 (ls [3,4,5])<|q1 (.mks 36 1 z_16 [(0,.l 6)])<|qC 442 (ls [0,1,2,7])<|qx 0<|qy 1<|qt 10 2 9<|qw 11<|qe) .ret
def F440 : F := mF 5 [.cell 10 (some 2),.t 11] none c440
attribute [go_sem] c440 F440
def c441 : C := rs 0 (qB 3 0<|qB 4 1<|qB 5 2<|qS 6 36<|qe) <| rs 11 (qb 4 5<|qr 5 3<|qC 247 (ls [0,2])<|q2 10 (.mov (.l 3))<|qx 0<|qy 1<|qG 7 z_9<|qs 7 17 7 5<|qV 8 6<|qe) <| i1 17 (qm 8<|qn<|yo<|qr 7 4<|qk .neq 2<|zo 2<|yo<|qr 7 15<|qr 5 5<|qq .neq 9<|zO 7<|qe) 30 (rs 0 (qS 6 36<|qe) .ret) <| rs 31 (qb 7 17<|qc 475<|qv 9<|qe) <| i1 33 (qr 5 8<|qm 9<|qh false<|qQ .geq 1<|qe) 37 (rs 0 (qS 6 36<|qe) .ret) <| rt 38 (qr 3 0<|qr 5 7<|qr 5 3<|qr 5 5<|qr 5 8<|qm 9<|qh false<|qm 9<|qr 5 8<|q1 (.iad 1 (.l 12) (.l 14))<|qj<|q1 (.build z_16 [(0,1,.c (.int .i64 15)),(1,1,.l 1),(7,1,.l 3),(3,1,.l 5),(5,1,.l 7),(8,1,.l 9),(4,1,.l 11),(12,1,.l 16)])<|q1 (.mks 36 1 z_16 [(0,.l 17)])<|qv 6<|qe) .ret
def F441 : F := mF 3 [.t 6] none c441
attribute [go_sem] c441 F441
def c442 : C := rs 0 (qB 4 0<|qB 5 1<|qB 6 2<|qG 8 z_11<|qS 9 36<|qe) <| rs 17 (qb 6 5<|qc 401<|q2 16 (.mov (.l 1))<|qx 0<|qy 1<|qw 10<|qD 11<|q1 (.mov (.l 4))<|qe) <| rs 22 (qR 5 1 7<|qm 10<|qd 47<|q2 21 (.mov (.l 3))<|qx 0<|qy 1<|qY 4 2<|qG 12 z_4<|qs 12 7 8 5<|qV 13 6<|qV 14 7<|qe) <| i1 29 (qm 14<|qK .neq 0<|qe) 30 (rs 31 (qb 4 2<|qt 8 2 0<|qS 9 36<|qe) .ret) <| rs 32 (qr 5 0<|qm 13<|q1 (.call (.k 429) .no (some 0) [.l 1,.l 2])<|qv 15<|qe) <| rs 36 (qb 12 7<|qm 3<|qf 5 1<|qs 5 7 2 0<|qf 5 8<|qs 5 1 4 1<|qe) <| i1 40 (qb 12 7<|qc 41<|qN<|qe) 42 (r1 43 (qm 15<|qm 3<|q1 (.app 35 36 (.l 0) (.l 1))<|qv 15<|qf 5 8<|q5 (.store (.v 5) 1 (.l 4) (.c (.slice 36 [])))<|qe)) <| rs 47 (qb 4 2<|qb 5 9<|qd 473<|qm 15<|qt 8 2 2<|qw 9<|qe) .ret
def F442 : F := mF 4 [.cell 8 (some 2),.t 9] none c442
attribute [go_sem] c442 F442
def c443 : C := rs 0 (qB 4 0<|qB 5 1<|qB 6 2<|qB 7 3<|qG 8 z_11<|qS 9 36<|qe) <| i1 13 (qr 6 0<|q3 (.call (.k 476) .no none [.l 1,.f 477])<|qe) 15 (rs 16 (qb 4 2<|qt 8 2 0<|qS 9 36<|qe) .ret) <| rs 17 (qb 6 5<|qR 7 9 3<|qC 262 (ls [0,2])<|qG 10 z_7<|qs 10 5 4 3<|qe) <| sq (rs 22 (qb 10 5<|qc 401<|q2 21 (.mov (.l 1))<|qx 0<|qy 1<|qw 11<|qD 12<|q1 (.mov (.l 4))<|qe) <| rs 26 (qm 11<|qf 5 1<|qg 4<|ql 5<|qQ .eql 0<|qe) <| cd 30 (rs 31 (qb 4 2<|qt 8 2 0<|qS 9 36<|qe) .ret) .skip) <| rs 32 (qb 4 2<|qb 5 9<|qb 10 5<|qC 442 [.l 0,.l 1,.l 2,.c (.slice 36 [])]<|qx 0<|qy 1<|qt 8 2 4<|qw 9<|qe) .ret
def F443 : F := mF 4 [.cell 8 (some 2),.t 9] none c443
attribute [go_sem] c443 F443
def c444 : C := rs 3 (q1 (.box (.g 0))<|q3 (.box (.g 1))<|q3 (.box (.g 2))<|q3 (.alloc z_7)<|q3 (.alloc z_16)<|q3 (.mov (cb false))<|qe) <| rs 17 (qr 5 3<|qr 5 5<|q1 (.build z_16 [(3,1,.l 1),(5,1,.l 3)])<|qG 9 z_16<|qs 9 36 5 4<|qe) <| rs 0 (qF 10<|qe) <| sq (rs 22 (qf 5 0<|q3 (.load (.v 5) none (.l 0))<|qe) <| bk 0 (rs 25 (q1 (.bin .eql (.g 23) (ci 8))<|qv 24<|qe) <| cd 24 (rs 27 (qb 4 5<|qr 5 3<|qr 5 4<|qr 5 6<|qC 256 (ls [0,2,4,6])<|q2 26 (.mov (.l 7))<|qx 0<|qy 1<|qt 4 5 9<|qw 10<|qe) <| r1 37 (qr 5 3<|qr 5 6<|qR 4 1 3<|q1 (.build z_16 [(0,1,.c (.int .i64 9)),(3,1,.l 1),(6,1,.l 3),(9,3,.l 5)])<|qt 9 36 6<|qe)) <| rs 45 (q1 (.bin .eql (.g 23) (ci 10))<|qv 44<|qe) <| cd 44 (rs 47 (qb 4 5<|qr 5 3<|qr 5 6<|qR 5 9 3<|qC 258 (ls [0,2,4,6])<|q2 46 (.mov (.l 7))<|qx 0<|qy 1<|qt 4 5 9<|qw 10<|qe) <| r1 57 (qr 5 3<|qr 5 6<|q1 (.build z_16 [(0,1,.c (.int .i64 11)),(3,1,.l 1),(6,1,.l 3)])<|qt 9 36 4<|qe)) <| rs 63 (q1 (.bin .eql (.g 23) (ci 12))<|qv 62<|qe) <| cd 62 (rs 65 (qb 4 5<|qr 5 3<|qr 5 4<|qr 5 5<|qC 265 (ls [0,2,4,6])<|q2 64 (.mov (.l 7))<|qx 0<|qy 1<|qt 4 5 9<|qw 10<|qe) <| rs 76 (qb 4 5<|qr 5 3<|qC 247 (ls [0,2])<|q2 75 (.mov (.l 3))<|qx 0<|qy 1<|qG 11 z_9<|qs 11 17 7 5<|qD 12<|q1 (.mov (.l 6))<|qe) <| r1 82 (qb 11 17<|qc 475<|qh false<|qf 9 0<|qu 9 3 13<|qf 9 8<|qs 9 1 5 2<|qe)) <| rs 88 (q1 (.bin .eql (.g 23) (ci 16))<|qv 87<|qe) <| cd 87 (rs 90 (qr 5 12<|qc 478<|q2 89 (.mov (.l 2))<|qx 0<|qy 1<|qG 13 z_9<|qs 13 17 6 4<|qV 14 5<|qe) <| i1 95 (qm 14<|qK .neq 0<|qe) 96 (rt 97 (qb 4 5<|qb 9 36<|qt 6 5 0<|qt 7 36 1<|qF 8<|qe) .ret) <| rs 100 (qb 4 5<|qb 13 17<|qr 5 5<|qC 253 (ls [0,1,3])<|q2 99 (.mov (.l 4))<|qx 0<|qy 1<|qt 4 5 6<|qw 10<|qe) <| r2 107 (qr 13 0<|qf 9 0<|qu 9 2 17<|qf 9 3<|qs 9 1 4 1<|qe)) <| rs 112 (q1 (.bin .eql (.g 23) (ci 18))<|qv 111<|qe) <| cd 111 (rs 114 (qb 4 5<|qr 5 3<|qr 5 5<|qr 5 4<|qC 266 (ls [0,2,4,6])<|q2 113 (.mov (.l 7))<|qx 0<|qy 1<|qt 4 5 9<|qw 10<|qe) <| r1 124 (qf 9 0<|qu 9 0 19<|qe)) <| rs 126 (q1 (.bin .eql (.g 23) (ci 20))<|qv 125<|qe) <| cd 125 (rs 128 (qb 4 5<|qr 5 3<|qr 5 5<|qC 267 (ls [0,2,4])<|q2 127 (.mov (.l 5))<|qx 0<|qy 1<|qt 4 5 7<|qw 10<|qe) <| r1 136 (qf 9 0<|qu 9 0 21<|qe)) <| rs 138 (q1 (.bin .eql (.g 23) (ci 22))<|qv 137<|qe) <| cd 137 (rs 140 (qb 4 5<|qr 5 3<|qr 5 5<|qC 270 (ls [0,2,4])<|q2 139 (.mov (.l 5))<|qx 0<|qy 1<|qt 4 5 7<|qw 10<|qe) <| rs 149 (qb 4 5<|qr 5 3<|qC 247 (ls [0,2])<|q2 148 (.mov (.l 3))<|qx 0<|qy 1<|qG 15 z_9<|qs 15 17 7 5<|qD 16<|q1 (.mov (.l 6))<|qe) <| r2 155 (qr 15 1<|qf 9 0<|qu 9 2 23<|qf 9 4<|qs 9 1 4 1<|qe)) <| rs 160 (q1 (.bin .eql (.g 23) (ci 24))<|qv 159<|qe) <| cd 159 (rs 162 (qb 4 5<|qr 5 3<|qr 5 5<|qC 271 (ls [0,2,4])<|q2 161 (.mov (.l 5))<|qx 0<|qy 1<|qt 4 5 7<|qw 10<|qe) <| r1 170 (qf 9 0<|qu 9 0 25<|qe)) <| rs 172 (q1 (.bin .eql (.g 23) (ci 26))<|qv 171<|qe) <| cd 171 (rs 174 (qb 4 5<|qr 5 3<|qr 5 4<|qr 5 12<|qr 5 8<|qr 5 5<|qC 273 (ls [0,2,4,6,8,10])<|q2 173 (.mov (.l 11))<|qx 0<|qy 1<|qt 4 5 13<|qw 10<|qe) <| r1 188 (qf 9 0<|qu 9 0 27<|qe)) <| rs 190 (q1 (.bin .eql (.g 23) (ci 28))<|qv 189<|qe) <| cd 189 (rs 192 (qb 4 5<|qr 5 3<|qr 5 8<|qr 5 4<|qr 5 5<|qC 275 (ls [0,2,4,6,8])<|q2 191 (.mov (.l 9))<|qx 0<|qy 1<|qt 4 5 11<|qw 10<|qe) <| r1 204 (qf 9 0<|qu 9 0 29<|qe)) .skip)) <| rt 205 (qb 4 5<|qb 9 36<|qm 10<|qt 6 5 0<|qt 7 36 1<|qV 8 2<|qe) .ret
def F444 : F := mF 3 [.cell 6 (some 5),.cell 7 (some 36),.t 8] none c444
attribute [go_sem] c444 F444
def r453_0 : List Op := (qB 4 1<|qF 6<|qe) 0 0 none
def r453_1 : List Op := (qm 0<|qr 4 2<|qk .sub 1<|q1 (.nilc (.l 0))<|qg 0<|q1 (.iada 2 3 (.l 5) (.l 3))<|q1 (.load (.v 0) (some 2) (.l 6))<|qm 2<|qb 4 36<|qC 413 (ls [7,8,9])<|q2 9 (.mov (.l 10))<|qx 0<|qy 1<|qG 7 z_11<|qs 7 2 14 12<|qV 8 13<|qe) 10 0 none
def r453_2 : List Op := (qm 0<|qr 4 2<|qk .sub 1<|qb 7 2<|q1 (.nilc (.l 0))<|qg 0<|q1 (.iada 2 3 (.l 6) (.l 3))<|qs 0 2 7 4<|qe) 23 0 none
def r453_3 : List Op := (qm 0<|qm 8<|q1 (.rcall 454 [.l 0,.l 1] 0 0 20000)<|qv 6<|qe) 31 0 none
def c453 : C := sq (.region false r453_0) <| sq (.region true r453_1) <| sq (.region true r453_2) <| sq (.region false r453_3) .ret
def F453 : F := mF 3 [.t 6] none c453
attribute [go_sem] r453_0 r453_1 r453_2 r453_3 c453 F453
def r454_0 : List Op := (qF 4<|qe) 0 0 none
def r454_1 : List Op := (q3 (.mov (.g 1))<|qH false<|q3 (.mov (ci 0))<|qe) 7 0 none
def l454_0 : C := .loop [] [0,6,9006,0,7,9007] [6] [20006,20007] (rs 10 (q3 (.bin .lss (.g 9) (.g 8))<|qe) <| sq (cd 10 .skip <| .exit 0) <| sq (bk 1 (rs 11 (q1 (.iad 36 (.g 7) (.g 9))<|qJ 36<|qG 6 z_16<|qs 6 36 2 1<|qe) <| i1 13 (qr 6 2<|qk .geq 1<|ya<|qr 6 2<|qk .leq 3<|za 3<|ya<|qm 0<|q1 (.nilc (.l 9))<|qg 6<|ql 0<|qh false<|qk .lss 200<|zA 8<|qe) 28 (r2 29 (qm 0<|qm 0<|q1 (.nilc (.l 1))<|qg 6<|ql 0<|qb 6 36<|q1 (.mks 36 1 z_16 [(0,.l 5)])<|q1 (.appd 36 (.l 4) (.l 6))<|q1 (.nilc (.l 0))<|qg 6<|qs 0 1 9 7<|qe)) <| rs 39 (qr 6 0<|qk .eql 2<|ya<|qf 6 25<|qg 0<|ql 6<|qk .eql 0<|yo<|qf 6 25<|qg 0<|ql 6<|qk .eql 15<|y1 3<|qo 8<|za 3<|ya<|qm 0<|qb 6 36<|q1 (.rcall 482 [.l 16,.l 17] 0 0 20000)<|qn<|zA 15<|qe) <| cd 59 (rs 0 (qF 4<|qe) .ret) .skip)) <| r1 60 (q1 (.bin .add (.g 9) (ci 1))<|qv 9<|qe))
def r454_9 : List Op := (qT 4<|qe) 0 0 none
def c454 : C := sq (.region false r454_0) <| sq (sq (.region false r454_1) <| bk 0 l454_0) <| sq (.region false r454_9) .ret
def F454 : F := mF 2 [.t 4] none c454
attribute [go_sem] r454_0 r454_1 r454_9 c454 F454
def c455 : C := rs 0 (qB 1 0<|qE 2<|qz 3 0<|qe) <| i1 4 (qb 1 3<|qc 28<|qN<|qe) 6 (rs 0 (qE 2<|qz 3 1<|qe) .ret) <| rs 7 (qr 1 0<|qr 1 1<|qr 1 2<|q1 (.mks 1 3 [.int .i64 0] [(0,.l 1),(1,.l 3),(2,.l 5)])<|qc 483<|qx 0<|qy 1<|qw 2<|qw 3<|qe) .ret
def F455 : F := mF 1 [.t 2,.t 3] none c455
attribute [go_sem] c455 F455
def l456_0 : C := .loop [] [] [] [] (lq 7 (qm 0<|qK .geq 128<|qe) 8 0 <| bk 1 (rs 9 (qm 4<|qm 0<|q1 (.conv (.int .u8) (.l 1))<|q1 (.bin .or (.l 2) (.c (.int .u8 128)))<|q1 (.mks 1 1 [.int .u8 0] [(0,.l 3)])<|q1 (.app 4 1 (.l 0) (.l 4))<|qv 4<|qe) <| r1 15 (qm 0<|q1 (.sh .shr (.l 0) (.c (.int .u64 7)))<|qv 0<|qe)))
def c456 : C := rs 0 (qE 2<|qz 3 0<|qe) <| i1 5 (qm 0<|qK .lss 0<|qe) 6 (rs 0 (qE 2<|qz 3 1<|qe) .ret) <| rs 4 (q3 (.mko 1)<|qe) <| sq (bk 0 l456_0) <| rs 17 (qm 4<|qm 0<|q1 (.conv (.int .u8) (.l 1))<|q1 (.mks 1 1 [.int .u8 0] [(0,.l 2)])<|q1 (.app 4 1 (.l 0) (.l 3))<|q1 (.b2s (.l 4))<|qv 2<|qz 3 0<|qe) .ret
def F456 : F := mF 1 [.t 2,.t 3] none c456
attribute [go_sem] c456 F456
def l457_0 : C := .loop [] [0,0,9000] [] [] (rs 9 (q3 (.bin .lss (.g 8) (.g 7))<|qe) <| sq (cd 9 .skip <| .exit 0) <| sq (bk 1 (rs 10 (q1 (.iad 1 (.g 6) (.g 8))<|qj<|qv 5<|qe) <| r2 12 (qm 0<|qm 0<|q1 (.nilc (.l 1))<|qg 0<|ql 0<|qm 5<|qc 484<|q1 (.appd 1 (.l 4) (.l 6))<|q1 (.nilc (.l 0))<|qg 0<|qs 0 1 9 7<|qe))) <| r1 22 (q1 (.bin .add (.g 8) (ci 1))<|qv 8<|qe))
def c457 : C := rs 6 (q3 (.mov (.g 1))<|qH false<|q3 (.mov (ci 0))<|qe) <| bk 0 l457_0
def F457 : F := mF 2 [] none c457
attribute [go_sem] c457 F457
def c458 : C := r2 4 (qm 0<|qm 0<|q1 (.nilc (.l 1))<|qg 0<|ql 0<|qm 1<|qc 485<|q1 (.appd 1 (.l 4) (.l 6))<|q1 (.nilc (.l 0))<|qg 0<|qs 0 1 9 7<|qe)
def F458 : F := mF 2 [] none c458
attribute [go_sem] c458 F458
def c459 : C := rs 0 (qB 1 0<|qE 2<|qe) <| rs 3 (qb 1 3<|qc 486<|qv 2<|qe) .ret
def F459 : F := mF 1 [.t 2] none c459
attribute [go_sem] c459 F459
def c460 : C := rs 0 (qE 2<|qe) <| rs 6 (qm 0<|qc 487<|q2 5 (.mov (.l 1))<|qx 0<|qy 1<|qw 3<|qD 4<|q1 (.mov (.l 4))<|qe) <| rs 10 (qm 3<|qv 2<|qe) .ret
def F460 : F := mF 1 [.t 2] none c460
attribute [go_sem] c460 F460
def l461_1 : C := .loop [] [] [] [] (lq 81 (qm 6<|qr 5 1<|qh false<|qQ .lss 0<|qe) 85 2 <| sq (bk 3 (r2 88 (qm 3<|qr 5 1<|qm 6<|qi 5<|qg 0<|qJ 3<|qc 459<|qq .add 0<|qr 5 1<|qm 6<|qi 5<|qg 3<|qj<|qc 489<|qq .add 8<|qr 5 1<|qm 6<|qi 5<|qg 4<|qj<|qc 488<|qq .add 16<|qv 3<|qe))) <| r1 86 (qm 6<|qk .add 1<|qv 6<|qe))
def l461_0 : C := .loop [] [] [5] [] (lq 59 (qm 4<|qr 1 5<|qh false<|qQ .lss 0<|qe) 63 0 <| sq (bk 1 (rs 66 (qr 1 5<|qm 4<|qi 2<|qJ 2<|qG 5 z_6<|qs 5 2 5 4<|qe) <| rt 71 (qm 3<|qr 5 0<|qc 488<|qq .add 0<|qr 5 1<|qh false<|qc 460<|qq .add 4<|qv 3<|qe) <| rs 0 (qz 6 0<|qe) <| bk 2 l461_1)) <| r1 64 (qm 4<|qk .add 1<|qv 4<|qe))
def l461_2 : C := .loop [] [] [8] [] (lq 119 (qm 7<|qr 1 12<|qh false<|qQ .lss 0<|qe) 123 4 <| sq (bk 5 (rs 126 (qr 1 12<|qm 7<|qi 11<|qJ 11<|qG 8 z_3<|qs 8 11 5 4<|qe) <| r2 131 (qm 3<|qr 8 0<|qc 460<|qq .add 0<|qr 8 1<|qc 460<|qq .add 4<|qf 8 2<|qg 0<|ql 8<|qc 460<|qq .add 8<|qf 8 2<|qg 1<|q1 (.load (.v 8) (some 3) (.l 15))<|qc 459<|qq .add 13<|qf 8 2<|qg 4<|ql 8<|qc 489<|qq .add 18<|qf 8 2<|qg 5<|ql 8<|qc 488<|qq .add 23<|qv 3<|qe))) <| r1 124 (qm 7<|qk .add 1<|qv 7<|qe))
def c461 : C := rs 0 (qB 1 0<|qE 2<|qe) <| rt 9 (qr 1 0<|qc 460<|qr 1 1<|qc 460<|qq .add 2<|qr 1 4<|qc 460<|qq .add 6<|qr 1 13<|qc 460<|qq .add 10<|qr 1 14<|qc 460<|qq .add 14<|qr 1 15<|qc 460<|qq .add 18<|qr 1 16<|qc 460<|qq .add 22<|qf 1 2<|qg 0<|ql 1<|qc 488<|qq .add 26<|qf 1 2<|qg 1<|ql 1<|qc 488<|qq .add 31<|qR 1 6 3<|qc 459<|qq .add 36<|qR 1 9 3<|qc 459<|qq .add 40<|qr 1 5<|qh false<|qc 460<|qq .add 44<|qv 3<|qe) <| sq (rs 0 (qz 4 0<|qe) <| bk 0 l461_0) <| rs 113 (qm 3<|qr 1 12<|qh false<|qc 460<|qq .add 0<|qv 3<|qe) <| sq (rs 0 (qz 7 0<|qe) <| bk 4 l461_2) <| rs 160 (qm 3<|qv 2<|qe) .ret
def F461 : F := mF 1 [.t 2] none c461
attribute [go_sem] c461 F461
def c462 : C := rs 0 (qB 2 0<|qF 3<|qe) <| rs 4 (qr 2 0<|q1 (.load (.c) none (.g 1))<|qq .eql 1<|qv 3<|qe) .ret
def F462 : F := mF 2 [.t 3] none c462
attribute [go_sem] c462 F462
def l463_0 : C := .loop [] [] [] [] (rs 9 (q3 (.bin .lss (.g 8) (.g 7))<|qe) <| sq (cd 9 .skip <| .exit 0) <| sq (bk 1 (rs 10 (qm 8<|qv 5<|qe) <| rs 11 (qm 1<|qm 0<|qm 5<|qi 9<|qJ 9<|q3 (.call (.v (.l 0)) .no none [.l 4])<|qe) <| cd 16 (rs 17 (qm 5<|qv 4<|qe) .ret) .skip)) <| r1 18 (q1 (.bin .add (.g 8) (ci 1))<|qv 8<|qe))
def c463 : C := rs 0 (qz 4 0<|qe) <| sq (rs 6 (qm 0<|qH false<|q3 (.mov (ci 0))<|qe) <| bk 0 l463_0) <| rs 0 (qz 4 (-1)<|qe) .ret
def F463 : F := mF 2 [.t 4] none c463
attribute [go_sem] c463 F463
def c464 : C := rs 0 (qG 2 z_2<|qe) <| rs 7 (qm 0<|q1 (.nilc (.l 0))<|qg 0<|ql 0<|qc 490<|q2 6 (.mov (.l 4))<|qx 0<|qy 1<|qY 5 2<|qG 3 z_2<|qs 3 3 9 6<|qV 4 7<|qV 5 8<|qe) <| i1 15 (qm 0<|q1 (.nilc (.l 0))<|qg 1<|ql 0<|yo<|qm 5<|qk .neq 0<|zO 4<|qe) 22 (rs 23 (qm 0<|q1 (.nilc (.l 0))<|qg 1<|q5 (.store (.v 0) 1 (.l 2) (cb true))<|qe) <| rs 26 (q1 (.build z_2 [])<|qt 2 3 0<|qe) .ret) <| rs 27 (qm 0<|qm 4<|q1 (.nilc (.l 0))<|qg 0<|qs 0 1 3 1<|qe) <| rs 31 (qb 3 3<|qt 2 3 0<|qe) .ret
def F464 : F := mF 1 [.cell 2 (some 3)] none c464
attribute [go_sem] c464 F464
def c465 : C := rs 0 (qz 2 0<|qe) <| rs 7 (qm 0<|q1 (.nilc (.l 0))<|qg 0<|ql 0<|qc 491<|q2 6 (.mov (.l 4))<|qx 0<|qy 1<|qY 5 2<|qV 3 6<|qV 4 7<|qV 5 8<|qe) <| i1 15 (qm 0<|q1 (.nilc (.l 0))<|qg 1<|ql 0<|yo<|qm 5<|qk .neq 0<|zO 4<|qe) 22 (rs 23 (qm 0<|q1 (.nilc (.l 0))<|qg 1<|q5 (.store (.v 0) 1 (.l 2) (cb true))<|qe) <| rs 0 (qz 2 0<|qe) .ret) <| rs 26 (qm 0<|qm 4<|q1 (.nilc (.l 0))<|qg 0<|qs 0 1 3 1<|qe) <| rs 30 (qm 3<|qv 2<|qe) .ret
def F465 : F := mF 1 [.t 2] none c465
attribute [go_sem] c465 F465
def c466 : C := rs 0 (qz 2 0<|qe) <| rs 4 (qm 0<|q1 (.rcall 465 [.l 0] 0 0 20000)<|qv 3<|qe) <| i1 6 (qm 3<|qm 0<|q1 (.nilc (.l 1))<|qg 0<|ql 0<|qh true<|qQ .gtr 0<|qe) 12 (rs 13 (qm 0<|q1 (.nilc (.l 0))<|qg 1<|q5 (.store (.v 0) 1 (.l 2) (cb true))<|qe) <| rs 0 (qz 2 0<|qe) .ret) <| rs 16 (qm 3<|qv 2<|qe) .ret
def F466 : F := mF 1 [.t 2] none c466
attribute [go_sem] c466 F466
def l467_1 : C := .loop [] [] [] [] (rs 51 (q3 (.bin .lss (.g 50) (.g 49))<|qe) <| sq (cd 51 .skip <| .exit 2) <| sq (bk 3 (r2 52 (qr 4 1<|qm 0<|q1 (.rcall 464 [.l 2] 0 0 21400)<|qm 0<|q1 (.rcall 493 [.l 4] 0 0 21500)<|qm 0<|q1 (.rcall 492 [.l 6] 0 0 21600)<|q1 (.build z_1 [(0,3,.l 3),(3,1,.l 5),(4,1,.l 7)])<|q1 (.mks 5 1 z_1 [(0,.l 8)])<|q1 (.app 62 5 (.l 1) (.l 9))<|qf 4 1<|qs 4 1 11 10<|qe))) <| r1 64 (q1 (.bin .add (.g 50) (ci 1))<|qv 50<|qe))
def l467_0 : C := .loop [] [] [4] [62] (rs 44 (q3 (.bin .lss (.g 43) (.g 42))<|qe) <| sq (cd 44 .skip <| .exit 0) <| sq (bk 1 (rs 45 (qm 0<|q1 (.rcall 492 [.l 0] 0 0 21200)<|q1 (.build [.str [],.nslice 5] [(0,1,.l 1)])<|qG 4 z_18<|qs 4 2 3 2<|qe) <| sq (rs 48 (qm 0<|q3 (.rcall 466 [.l 0] 0 0 21300)<|q3 (.mov (ci 0))<|qe) <| bk 2 l467_1) <| r1 65 (qr 3 5<|q1 (.ldf 62 4 2 (.g 4))<|q1 (.mks 2 1 z_6 [(0,.l 2)])<|q1 (.app 69 2 (.l 1) (.l 3))<|qf 3 5<|qs 3 1 5 4<|qe))) <| r1 71 (q1 (.bin .add (.g 43) (ci 1))<|qv 43<|qe))
def l467_2 : C := .loop [] [] [5] [] (rs 75 (q3 (.bin .lss (.g 74) (.g 73))<|qe) <| sq (cd 75 .skip <| .exit 4) <| sq (bk 5 (rs 76 (qm 0<|q1 (.rcall 465 [.l 0] 0 0 21800)<|qm 0<|q1 (.rcall 465 [.l 2] 0 0 21900)<|q1 (.build z_3 [(0,1,.l 1),(1,1,.l 3)])<|qG 5 z_3<|qs 5 11 5 4<|qe) <| rs 81 (qm 0<|q1 (.rcall 465 [.l 0] 0 0 22000)<|qm 0<|q1 (.rcall 464 [.l 2] 0 0 22100)<|qm 0<|q1 (.rcall 493 [.l 4] 0 0 22200)<|qm 0<|q1 (.rcall 492 [.l 6] 0 0 22300)<|q1 (.build z_8 [(0,1,.l 1),(1,3,.l 3),(4,1,.l 5),(5,1,.l 7)])<|qf 5 2<|qs 5 9 9 8<|qe) <| r1 91 (qr 3 12<|qb 5 11<|q1 (.mks 11 1 z_3 [(0,.l 2)])<|q1 (.app 95 11 (.l 1) (.l 3))<|qf 3 12<|qs 3 1 5 4<|qe))) <| r1 97 (q1 (.bin .add (.g 74) (ci 1))<|qv 74<|qe))
def c467 : C := rs 0 (qG 2 z_9<|qe) <| rs 0 (qG 3 z_19<|qe) <| rs 6 (qm 0<|q1 (.rcall 465 [.l 0] 0 0 20000)<|qm 0<|q1 (.rcall 465 [.l 2] 0 0 20100)<|qm 0<|q1 (.rcall 465 [.l 4] 0 0 20200)<|qm 0<|q1 (.rcall 465 [.l 6] 0 0 20300)<|qf 3 0<|qs 3 1 8 1<|qf 3 1<|qs 3 1 10 3<|qf 3 4<|qs 3 1 12 5<|qf 3 13<|qs 3 1 14 7<|qe) <| rs 18 (qm 0<|q1 (.rcall 465 [.l 0] 0 0 20400)<|qm 0<|q1 (.rcall 465 [.l 2] 0 0 20500)<|qm 0<|q1 (.rcall 465 [.l 4] 0 0 20600)<|qf 3 14<|qs 3 1 6 1<|qf 3 15<|qs 3 1 8 3<|qf 3 16<|qs 3 1 10 5<|qe) <| rs 27 (qm 0<|q1 (.rcall 492 [.l 0] 0 0 20700)<|qm 0<|q1 (.rcall 492 [.l 2] 0 0 20800)<|qf 3 2<|qg 0<|qs 3 1 5 1<|qf 3 2<|qg 1<|qs 3 1 8 3<|qe) <| rs 35 (qm 0<|q1 (.rcall 464 [.l 0] 0 0 20900)<|qm 0<|q1 (.rcall 464 [.l 2] 0 0 21000)<|qf 3 6<|qs 3 3 4 1<|qf 3 9<|qs 3 3 6 3<|qe) <| sq (rs 41 (qm 0<|q3 (.rcall 466 [.l 0] 0 0 21100)<|q3 (.mov (ci 0))<|qe) <| bk 0 l467_0) <| sq (rs 72 (qm 0<|q3 (.rcall 466 [.l 0] 0 0 21700)<|q3 (.mov (ci 0))<|qe) <| bk 4 l467_2) <| rs 98 (qb 3 17<|qt 2 17 0<|qe) .ret
def F467 : F := mF 1 [.cell 2 (some 17)] none c467
attribute [go_sem] c467 F467
def l468_0 : C := .loop [] [] [] [] (rs 9 (q3 (.bin .lss (.g 8) (.g 7))<|qe) <| sq (cd 9 .skip <| .exit 0) <| sq (bk 1 (rs 10 (qm 8<|qv 5<|qe) <| rs 11 (qm 1<|qm 0<|qm 5<|qi 36<|qJ 36<|q3 (.call (.v (.l 0)) .no none [.l 4])<|qe) <| cd 16 (rs 17 (qm 5<|qv 4<|qe) .ret) .skip)) <| r1 18 (q1 (.bin .add (.g 8) (ci 1))<|qv 8<|qe))
def c468 : C := rs 0 (qz 4 0<|qe) <| sq (rs 6 (qm 0<|qH false<|q3 (.mov (ci 0))<|qe) <| bk 0 l468_0) <| rs 0 (qz 4 (-1)<|qe) .ret
def F468 : F := mF 2 [.t 4] none c468
attribute [go_sem] c468 F468
def c469 : C := rs 0 (qG 2 z_2<|qE 3<|qz 4 0<|qe) <| rs 11 (qm 0<|qc 470<|q2 10 (.mov (.l 1))<|qx 0<|qy 1<|qY 2 2<|qV 5 3<|qV 0 4<|qV 6 5<|qe) <| i1 16 (qm 6<|qK .neq 0<|qe) 17 (rs 18 (q1 (.build z_2 [])<|qm 6<|qt 2 3 0<|qE 3<|qV 4 1<|qe) .ret) <| rs 21 (qm 0<|qc 470<|q2 20 (.mov (.l 1))<|qx 0<|qy 1<|qY 2 2<|qV 7 3<|qV 0 4<|qV 6 5<|qe) <| i1 26 (qm 6<|qK .neq 0<|qe) 27 (rs 28 (q1 (.build z_2 [])<|qm 6<|qt 2 3 0<|qE 3<|qV 4 1<|qe) .ret) <| rs 31 (qm 0<|qc 470<|q2 30 (.mov (.l 1))<|qx 0<|qy 1<|qY 2 2<|qV 8 3<|qV 0 4<|qV 6 5<|qe) <| i1 36 (qm 6<|qK .neq 0<|qe) 37 (rs 38 (q1 (.build z_2 [])<|qm 6<|qt 2 3 0<|qE 3<|qV 4 1<|qe) .ret) <| rs 40 (qm 5<|qm 7<|qm 8<|q1 (.build z_2 [(0,1,.l 0),(1,1,.l 1),(2,1,.l 2)])<|qG 9 z_2<|qs 9 3 4 3<|qe) <| i1 44 (qb 9 3<|qc 24<|qN<|qe) 46 (rs 47 (q1 (.build z_2 [])<|qt 2 3 0<|qE 3<|qz 4 3<|qe) .ret) <| rs 48 (qb 9 3<|qm 0<|qt 2 3 0<|qw 3<|qz 4 0<|qe) .ret
def F469 : F := mF 1 [.cell 2 (some 3),.t 3,.t 4] none c469
attribute [go_sem] c469 F469
def l470_0 : C := .loop [] [] [] [] (lq 10 (qm 5<|qm 0<|qh true<|qq .lss 0<|ya<|qm 0<|qm 5<|q1 (.idx (.l 5) (.l 6))<|q1 (.bin .geq (.l 7) (.c (.int .u8 128)))<|zA 4<|qe) 19 0 <| bk 1 (r1 20 (qm 5<|qk .add 1<|qv 5<|qe)))
def l470_1 : C := .loop [] [] [] [] (lq 29 (qm 7<|qK .geq 0<|qe) 30 2 <| sq (bk 3 (r1 33 (qm 6<|q1 (.bin .mul (ci 128) (.l 0))<|qm 0<|qm 7<|q1 (.idx (.l 2) (.l 3))<|q1 (.conv (.int .i64) (.l 4))<|qk .rem 128<|qq .add 1<|qv 6<|qe))) <| r1 31 (qm 7<|qk .sub 1<|qv 7<|qe))
def c470 : C := rs 0 (qz 2 0<|qE 3<|qz 4 0<|qe) <| rs 0 (qz 5 0<|qe) <| sq (bk 0 l470_0) <| i1 22 (qm 5<|qm 0<|qh true<|qQ .eql 0<|qe) 25 (rs 0 (qz 2 0<|qE 3<|qz 4 2<|qe) .ret) <| i1 26 (qm 5<|qK .gtr 8<|qe) 27 (rs 0 (qz 2 0<|qE 3<|qz 4 3<|qe) .ret) <| rs 0 (qz 6 0<|qe) <| sq (rs 28 (qm 5<|qv 7<|qe) <| bk 2 l470_1) <| rs 42 (qm 6<|qc 487<|q2 41 (.mov (.l 1))<|qx 0<|qy 1<|qw 8<|qD 9<|q1 (.mov (.l 4))<|qe) <| i1 46 (qm 8<|qm 0<|qm 5<|qk .add 1<|q1 (.sl true 0 (.l 1) none (some (.l 3)))<|qQ .neq 0<|qe) 51 (rs 0 (qz 2 0<|qE 3<|qz 4 3<|qe) .ret) <| rt 52 (qm 6<|qm 0<|qm 5<|qk .add 1<|q1 (.sl true 0 (.l 1) (some (.l 3)) none)<|qV 2 0<|qw 3<|qz 4 0<|qe) .ret
def F470 : F := mF 1 [.t 2,.t 3,.t 4] none c470
attribute [go_sem] c470 F470
def c471 : C := rs 0 (qE 2<|qe) <| rs 7 (qm 0<|q1 (.nilc (.l 0))<|qg 0<|ql 0<|qc 494<|q2 6 (.mov (.l 4))<|qx 0<|qy 1<|qY 5 2<|qV 3 6<|qV 4 7<|qV 5 8<|qe) <| rs 15 (qm 0<|qm 0<|q1 (.nilc (.l 1))<|qg 1<|ql 0<|yo<|qm 5<|qk .neq 0<|zo 5<|q1 (.nilc (.l 0))<|qg 1<|qs 0 1 10 8<|qe) <| rs 26 (qm 0<|qm 4<|q1 (.nilc (.l 0))<|qg 0<|qs 0 1 3 1<|qe) <| rs 30 (qm 3<|qv 2<|qe) .ret
def F471 : F := mF 1 [.t 2] none c471
attribute [go_sem] c471 F471
def c472 : C := rs 0 (qF 2<|qe) <| rs 7 (qm 0<|q1 (.nilc (.l 0))<|qg 0<|ql 0<|qc 495<|q2 6 (.mov (.l 4))<|qx 0<|qy 1<|qY 5 2<|qV 3 6<|qV 4 7<|qV 5 8<|qe) <| rs 15 (qm 0<|qm 0<|q1 (.nilc (.l 1))<|qg 1<|ql 0<|yo<|qm 5<|qk .neq 0<|zo 5<|q1 (.nilc (.l 0))<|qg 1<|qs 0 1 10 8<|qe) <| rs 26 (qm 0<|qm 4<|q1 (.nilc (.l 0))<|qg 0<|qs 0 1 3 1<|qe) <| rs 30 (qm 3<|qv 2<|qe) .ret
def F472 : F := mF 1 [.t 2] none c472
attribute [go_sem] c472 F472
def c473 : C := rs 0 (qB 2 0<|qB 3 1<|qG 4 z_11<|qe) <| rs 6 (qr 2 1<|q1 (.fn 496 [.g 3] [3])<|q1 (.call (.k 463) .borrow none [.l 1,.l 2])<|qv 5<|qe) <| rs 10 (qr 2 1<|q1 (.call (.k 497) .freeze (some 0) [.l 1])<|qf 2 1<|qs 2 1 3 2<|qe) <| sq (bk 0 (rs 22 (qm 5<|qk .lss 0<|qv 21<|qe) <| cd 21 (r1 24 (qr 2 1<|qb 3 9<|q1 (.mks 9 1 z_12 [(0,.l 2)])<|q1 (.app 12 9 (.l 1) (.l 3))<|qf 2 1<|qs 2 1 5 4<|qe)) <| rt 31 (qr 2 1<|qm 5<|qi 9<|qg 0<|q1 (.load (.e 12) none (.l 4))<|qr 3 0<|qq .eql 5<|qv 30<|qe) <| cd 30 (r1 40 (qr 2 1<|qm 5<|qb 3 9<|q1 (.iad 9 (.l 1) (.l 2))<|q5 (.store (.e 12) 9 (.l 4) (.l 3))<|qe)) <| r1 14 (qr 2 1<|qm 5<|qb 3 9<|q1 (.mks 9 1 z_12 [(0,.l 3)])<|q1 (.ins 498 12 9 (.l 1) (.l 2) (.l 4))<|qf 2 1<|qs 2 1 6 5<|qe))) <| rs 45 (qb 2 2<|qt 4 2 0<|qe) .ret
def F473 : F := mF 2 [.cell 4 (some 2)] none c473
attribute [go_sem] c473 F473
def c474 : C := rs 0 (qB 2 0<|qG 4 z_2<|qG 5 z_2<|qz 6 0<|qe) <| i1 7 (qb 2 3<|qm 1<|qd 499<|qN<|qe) 10 (rs 11 (q1 (.build z_2 [])<|q1 (.build z_2 [])<|qt 4 3 0<|qt 5 3 1<|qz 6 1<|qe) .ret) <| sq (bk 0 (rs 20 (qm 1<|qf 2 0<|qg 0<|ql 2<|qq .gtr 0<|qv 19<|qe) <| cd 19 (r1 25 (qm 1<|qf 2 0<|qg 0<|qs 2 1 2 0<|qf 2 0<|qg 1<|qu 2 5 0<|qe)) <| rs 31 (qf 2 0<|qg 1<|ql 2<|qk .eql 1048576<|qv 30<|qe) <| cd 30 (rs 35 (q1 (.build z_2 [])<|q1 (.build z_2 [])<|qt 4 3 0<|qt 5 3 1<|qz 6 6<|qe) .ret) <| r1 13 (qf 2 0<|qg 1<|ql 2<|qk .add 1<|qf 2 0<|qg 1<|qs 2 1 5 3<|qe))) <| rt 37 (qb 2 3<|qR 2 0 3<|qt 4 3 0<|qt 5 3 2<|qz 6 0<|qe) .ret
def F474 : F := mF 2 [.cell 4 (some 3),.cell 5 (some 3),.t 6] none c474
attribute [go_sem] c474 F474
def l475_0 : C := .loop [] [] [] [] (lq 12 (qm 6<|qm 3<|qh true<|qQ .lss 0<|qe) 15 0 <| sq (bk 1 (r1 18 (qm 5<|qm 3<|qm 6<|qm 3<|qh true<|qm 6<|qk .add 64<|q1 (.mm false (.l 4) (.l 6))<|q1 (.sl true 0 (.l 1) (some (.l 2)) (some (.l 7)))<|q1 (.mks 1 1 [.str []] [(0,.l 8)])<|q1 (.app 5 1 (.l 0) (.l 9))<|qv 5<|qe))) <| r1 16 (qm 6<|qk .add 64<|qv 6<|qe))
def c475 : C := rs 0 (qB 1 0<|qS 2 1<|qe) <| rs 8 (qb 1 17<|qc 500<|q2 7 (.mov (.l 1))<|qx 0<|qy 1<|qw 3<|qD 4<|q1 (.mov (.l 4))<|qe) <| rs 5 (q3 (.mko 1)<|qe) <| sq (rs 0 (qz 6 0<|qe) <| bk 0 l475_0) <| rs 29 (qm 5<|qv 2<|qe) .ret
def F475 : F := mF 1 [.t 2] none c475
attribute [go_sem] c475 F475
def c476 : C := rs 0 (qF 4<|qe) <| rs 5 (qm 0<|qm 1<|qd 501<|qk .geq 0<|qv 4<|qe) .ret
def F476 : F := mF 2 [.t 4] none c476
attribute [go_sem] c476 F476
def c477 : C := rs 0 (qB 1 0<|qF 2<|qe) <| rs 3 (qr 1 4<|qk .eql 2<|qv 2<|qe) .ret
def F477 : F := mF 1 [.t 2] none c477
attribute [go_sem] c477 F477
def c478 : C := rs 0 (qG 2 z_9<|qz 3 0<|qe) <| rs 6 (qm 0<|q1 (.build z_14 [(0,1,.l 0)])<|q1 (.box (.l 1))<|qv 4<|qe) <| rs 9 (qm 4<|q1 (.rcall 467 [.l 0] 0 8 20000)<|qG 5 z_9<|qs 5 17 2 1<|qe) <| i1 11 (qm 4<|q1 (.nilc (.l 0))<|qg 1<|ql 8<|yo<|qm 4<|q1 (.nilc (.l 5))<|qg 0<|ql 8<|q1 (.bin .neq (.l 8) (.c (.str [])))<|zo 4<|yo<|qb 5 17<|qc 244<|qn<|zO 11<|qe) 26 (rs 27 (q1 (.build z_9 [])<|qt 2 17 0<|qz 3 3<|qe) .ret) <| rs 28 (qb 5 17<|qt 2 17 0<|qz 3 0<|qe) .ret
def F478 : F := mF 1 [.cell 2 (some 17),.t 3] none c478
attribute [go_sem] c478 F478
def l482_0 : C := .loop [] [] [7] [] (rs 20 (q3 (.bin .lss (.g 19) (.g 18))<|qe) <| sq (cd 20 .skip <| .exit 0) <| sq (bk 1 (rs 21 (q1 (.iad 12 (.g 17) (.g 19))<|q1 (.load (.x) (some 12) (.l 0))<|qG 7 z_17<|qs 7 12 2 1<|qe) <| rs 23 (qr 7 0<|qf 3 13<|qg 0<|ql 3<|qq .eql 1<|ya<|qr 7 1<|qf 3 13<|qg 1<|ql 3<|qq .eql 8<|zA 6<|qe) <| cd 36 (r1 37 (qb 7 12<|qt 5 12 0<|qe)) .skip)) <| r1 38 (q1 (.bin .add (.g 19) (ci 1))<|qv 19<|qe))
def l482_1 : C := .loop [] [] [11,12] [] (rs 68 (q3 (.bin .lss (.g 67) (.g 66))<|qe) <| sq (cd 68 .skip <| .exit 2) <| sq (bk 3 (rs 69 (q1 (.iad 1 (.g 65) (.g 67))<|qj<|qv 10<|qe) <| rs 71 (qm 0<|qm 10<|qk .sub 1<|q1 (.nilc (.l 0))<|qg 0<|q1 (.iada 2 3 (.l 4) (.l 2))<|q1 (.load (.v 0) (some 2) (.l 5))<|qc 398<|qG 11 z_11<|qs 11 2 8 7<|qe) <| rt 80 (qr 11 1<|qb 11 2<|qC 409 [.l 2,ci 1]<|q1 (.iad 9 (.l 1) (.l 3))<|qg 1<|qg 5<|qj<|qc 411<|q2 79 (.mov (.l 8))<|qx 0<|qy 1<|qG 12 z_7<|qs 12 5 12 10<|qV 13 11<|qe) <| rt 91 (qm 13<|qn<|yo<|qr 12 0<|qh false<|qk .neq 1<|zo 2<|yo<|qr 12 0<|q1 (.iad 17 (.l 10) (ci 0))<|qg 12<|qj<|qr 5 0<|qC 99 (ls [13,15])<|qr 5 1<|qq .lss 16<|zO 8<|qe) <| cd 111 (rs 0 (qF 4<|qe) .ret) .skip)) <| r1 112 (q1 (.bin .add (.g 67) (ci 1))<|qv 67<|qe))
def c482 : C := rs 0 (qB 3 1<|qF 4<|qe) <| rs 0 (qG 5 z_17<|qe) <| sq (rs 14 (qm 0<|q1 (.nilc (.l 0))<|qg 7<|q3 (.load (.v 0) none (.l 2))<|qH false<|q3 (.mov (ci 0))<|qe) <| bk 0 l482_0) <| i1 39 (qr 5 2<|qK .gtr 3<|qe) 41 (rs 0 (qT 4<|qe) .ret) <| rt 42 (qm 0<|qr 3 1<|qk .sub 1<|q1 (.nilc (.l 0))<|qg 0<|q1 (.iada 2 3 (.l 5) (.l 3))<|qg 1<|ql 0<|qm 0<|qr 3 1<|qk .sub 1<|q1 (.nilc (.l 9))<|qg 0<|q1 (.iada 2 3 (.l 14) (.l 12))<|q1 (.load (.v 0) (some 2) (.l 15))<|qc 398<|qC 409 [.l 17,ci 1]<|q1 (.iad 9 (.l 8) (.l 18))<|qJ 9<|qG 8 z_12<|qs 8 9 21 20<|qe) <| sq (rs 63 (qf 8 1<|qg 2<|q3 (.load (.v 8) none (.l 1))<|qH false<|q3 (.mov (ci 0))<|qe) <| bk 2 l482_1) <| rs 0 (qT 4<|qe) .ret
def F482 : F := mF 2 [.t 4] none c482
attribute [go_sem] c482 F482
def l483_0 : C := .loop [] [] [] [] (rs 12 (q3 (.bin .lss (.g 11) (.g 10))<|qe) <| sq (cd 12 .skip <| .exit 0) <| sq (bk 1 (rs 13 (q1 (.iad 1 (.g 9) (.g 11))<|qj<|qv 6<|qe) <| rs 16 (qm 6<|qc 456<|q2 15 (.mov (.l 1))<|qx 0<|qy 1<|qw 7<|qw 8<|qe) <| i1 20 (qm 8<|qK .neq 0<|qe) 21 (rs 22 (qm 8<|qE 2<|qw 3<|qe) .ret) <| r1 23 (qm 4<|qm 7<|q1 (.app 4 1 (.l 0) (.l 1))<|qv 4<|qe))) <| r1 26 (q1 (.bin .add (.g 11) (ci 1))<|qv 11<|qe))
def c483 : C := rs 0 (qE 2<|qz 3 0<|qe) <| rs 4 (q3 (.mko 1)<|qe) <| sq (rs 9 (q3 (.mov (.g 0))<|qH false<|q3 (.mov (ci 0))<|qe) <| bk 0 l483_0) <| rs 27 (qm 4<|q1 (.b2s (.l 0))<|qv 2<|qz 3 0<|qe) .ret
def F483 : F := mF 1 [.t 2,.t 3] none c483
attribute [go_sem] c483 F483
def c484 : C := rs 0 (qE 2<|qe) <| rs 6 (qm 0<|qh true<|qc 456<|q2 5 (.mov (.l 2))<|qx 0<|qy 1<|qw 3<|qD 4<|q1 (.mov (.l 5))<|qe) <| rs 11 (qm 3<|qm 0<|qq .add 0<|qv 2<|qe) .ret
def F484 : F := mF 1 [.t 2] none c484
attribute [go_sem] c484 F484
def c485 : C := rs 0 (qE 2<|qe) <| i1 3 (q3 (.mov (.g 0))<|qe) 3 (rs 2 (q3 (.mov (.c (.str [1])))<|qe) .ret) <| rs 2 (q3 (.mov (.c (.str [0])))<|qe) .ret
def F485 : F := mF 1 [.t 2] none c485
attribute [go_sem] c485 F485
def c486 : C := rs 0 (qB 1 0<|qE 2<|qe) <| rs 10 (qr 1 0<|qc 487<|q2 9 (.mov (.l 2))<|qx 0<|qy 1<|qw 3<|qD 4<|q1 (.mov (.l 5))<|qe) <| rs 16 (qr 1 1<|qc 487<|q2 15 (.mov (.l 2))<|qx 0<|qy 1<|qw 5<|qD 6<|q1 (.mov (.l 5))<|qe) <| rs 22 (qr 1 2<|qc 487<|q2 21 (.mov (.l 2))<|qx 0<|qy 1<|qw 7<|qD 8<|q1 (.mov (.l 5))<|qe) <| rs 27 (qm 3<|qm 5<|qq .add 0<|qm 7<|qq .add 2<|qv 2<|qe) .ret
def F486 : F := mF 1 [.t 2] none c486
attribute [go_sem] c486 F486
def l487_0 : C := .loop [] [] [] [] (lq 12 (qm 6<|qm 4<|qh false<|qQ .lss 0<|qe) 15 0 <| sq (bk 1 (rs 18 (qm 4<|qm 6<|qi 1<|qj<|qv 7<|qe) <| i1 22 (qm 6<|qm 4<|qh false<|qk .sub 1<|qQ .lss 0<|qe) 26 (r1 27 (qm 7<|qk .add 128<|qv 7<|qe)) <| r1 29 (qm 5<|qm 7<|q1 (.conv (.int .u8) (.l 1))<|q1 (.mks 1 1 [.int .u8 0] [(0,.l 2)])<|q1 (.b2s (.l 3))<|qq .add 0<|qv 5<|qe))) <| r1 16 (qm 6<|qk .add 1<|qv 6<|qe))
def c487 : C := rs 0 (qE 2<|qz 3 0<|qe) <| i1 8 (qm 0<|qK .lss 0<|qe) 9 (rs 0 (qE 2<|qz 3 1<|qe) .ret) <| rs 10 (qm 0<|qc 502<|qv 4<|qe) <| rs 0 (qE 5<|qe) <| sq (rs 0 (qz 6 0<|qe) <| bk 0 l487_0) <| rs 35 (qm 5<|qv 2<|qz 3 0<|qe) .ret
def F487 : F := mF 1 [.t 2,.t 3] none c487
attribute [go_sem] c487 F487
def c488 : C := rs 0 (qE 2<|qe) <| rs 3 (qm 0<|qc 503<|qv 2<|qe) .ret
def F488 : F := mF 1 [.t 2] none c488
attribute [go_sem] c488 F488
def c489 : C := rs 0 (qE 2<|qe) <| rs 3 (qm 0<|qc 504<|qv 2<|qe) .ret
def F489 : F := mF 1 [.t 2] none c489
attribute [go_sem] c489 F489
def l490_0 : C := .loop [] [] [] [] (rs 12 (q3 (.bin .lss (.g 11) (ci 3))<|qe) <| sq (cd 12 .skip <| .exit 0) <| sq (bk 1 (rs 13 (qm 11<|qv 6<|qe) <| rs 15 (qm 0<|qc 491<|q2 14 (.mov (.l 1))<|qx 0<|qy 1<|qY 2 2<|qV 7 3<|qV 8 4<|qV 9 5<|qe) <| i1 20 (qm 9<|qK .neq 0<|qe) 21 (rs 22 (q1 (.build z_2 [])<|qm 9<|qt 2 3 0<|qE 3<|qV 4 1<|qe) .ret) <| r1 24 (qm 6<|qm 7<|qm 8<|q1 (.iada 1 3 (.g 5) (.l 0))<|qs 5 1 3 1<|qV 0 2<|qe))) <| r1 28 (q1 (.bin .add (.g 11) (ci 1))<|qv 11<|qe))
def c490 : C := rs 0 (qG 2 z_2<|qE 3<|qz 4 0<|qe) <| rs 0 (qG 5 z_2<|qe) <| sq (rs 0 (qz 11 0<|qe) <| bk 0 l490_0) <| rs 29 (q1 (.iada 1 3 (.g 5) (ci 0))<|ql 5<|q1 (.iada 1 3 (.g 5) (ci 1))<|ql 5<|q1 (.iada 1 3 (.g 5) (ci 2))<|ql 5<|q1 (.build z_2 [(0,1,.l 1),(1,1,.l 3),(2,1,.l 5)])<|qG 10 z_2<|qs 10 3 7 6<|qe) <| i1 36 (qb 10 3<|qc 28<|qN<|qe) 38 (rs 39 (q1 (.build z_2 [])<|qt 2 3 0<|qE 3<|qz 4 3<|qe) .ret) <| rs 40 (qb 10 3<|qm 0<|qt 2 3 0<|qw 3<|qz 4 0<|qe) .ret
def F490 : F := mF 1 [.cell 2 (some 3),.t 3,.t 4] none c490
attribute [go_sem] c490 F490
def l491_0 : C := .loop [] [] [] [] (rs 11 (q3 (.bin .lss (.g 10) (.g 9))<|qe) <| sq (cd 11 .skip <| .exit 0) <| sq (bk 1 (rs 12 (qm 10<|qv 6<|qe) <| rs 13 (qm 0<|qm 6<|q1 (.idx (.l 0) (.l 1))<|q1 (.bin .and (.l 2) (.c (.int .u8 127)))<|q1 (.conv (.int .i64) (.l 3))<|qv 7<|qe) <| bk 2 (rs 29 (qm 6<|qk .gtr 8<|ya<|qm 0<|qm 6<|q1 (.idx (.l 3) (.l 4))<|q1 (.bin .geq (.l 5) (.c (.int .u8 128)))<|yo<|qm 7<|qk .gtr 0<|y1 2<|qo 7<|za 2<|qv 28<|qe) <| cd 28 (rs 41 (qm 0<|qc 505<|qz 2 0<|qE 3<|qV 4 1<|qe) .ret) <| rs 44 (qm 0<|qm 6<|q1 (.idx (.l 0) (.l 1))<|q1 (.bin .geq (.l 2) (.c (.int .u8 128)))<|qv 43<|qe) <| cd 43 (r1 48 (qm 5<|qm 7<|qm 6<|q1 (.bin .mul (ci 7) (.l 2))<|q1 (.sh .shl (.l 1) (.l 3))<|qq .or 0<|qv 5<|qe)) <| rs 55 (qm 7<|qk .eql 0<|ya<|qm 6<|qk .gtr 0<|za 2<|qv 54<|qe) <| cd 54 (rs 0 (qz 2 0<|qE 3<|qz 4 3<|qe) .ret) <| rt 18 (qm 5<|qm 7<|qm 6<|q1 (.bin .mul (ci 7) (.l 2))<|q1 (.sh .shl (.l 1) (.l 3))<|qq .or 0<|qm 0<|qm 6<|qk .add 1<|q1 (.sl true 0 (.l 6) (some (.l 8)) none)<|qV 2 5<|qw 3<|qz 4 0<|qe) .ret))) <| r1 61 (q1 (.bin .add (.g 10) (ci 1))<|qv 10<|qe))
def c491 : C := rs 0 (qz 2 0<|qE 3<|qz 4 0<|qe) <| rs 0 (qz 5 0<|qe) <| sq (rs 8 (qm 0<|qH true<|q3 (.mov (ci 0))<|qe) <| bk 0 l491_0) <| rs 0 (qz 2 0<|qE 3<|qz 4 2<|qe) .ret
def F491 : F := mF 1 [.t 2,.t 3,.t 4] none c491
attribute [go_sem] c491 F491
def c492 : C := rs 0 (qE 2<|qe) <| rs 7 (qm 0<|q1 (.nilc (.l 0))<|qg 0<|ql 0<|qc 506<|q2 6 (.mov (.l 4))<|qx 0<|qy 1<|qY 5 2<|qV 3 6<|qV 4 7<|qV 5 8<|qe) <| i1 15 (qm 0<|q1 (.nilc (.l 0))<|qg 1<|ql 0<|yo<|qm 5<|qk .neq 0<|zO 4<|qe) 22 (rs 23 (qm 0<|q1 (.nilc (.l 0))<|qg 1<|q5 (.store (.v 0) 1 (.l 2) (cb true))<|qe) <| rs 0 (qE 2<|qe) .ret) <| rs 26 (qm 0<|qm 4<|q1 (.nilc (.l 0))<|qg 0<|qs 0 1 3 1<|qe) <| rs 30 (qm 3<|qv 2<|qe) .ret
def F492 : F := mF 1 [.t 2] none c492
attribute [go_sem] c492 F492
def c493 : C := rs 0 (qF 2<|qe) <| rs 7 (qm 0<|q1 (.nilc (.l 0))<|qg 0<|ql 0<|qc 507<|q2 6 (.mov (.l 4))<|qx 0<|qy 1<|qY 5 2<|qV 3 6<|qV 4 7<|qV 5 8<|qe) <| i1 15 (qm 0<|q1 (.nilc (.l 0))<|qg 1<|ql 0<|yo<|qm 5<|qk .neq 0<|zO 4<|qe) 22 (rs 23 (qm 0<|q1 (.nilc (.l 0))<|qg 1<|q5 (.store (.v 0) 1 (.l 2) (cb true))<|qe) <| rs 0 (qF 2<|qe) .ret) <| rs 26 (qm 0<|qm 4<|q1 (.nilc (.l 0))<|qg 0<|qs 0 1 3 1<|qe) <| rs 30 (qm 3<|qv 2<|qe) .ret
def F493 : F := mF 1 [.t 2] none c493
attribute [go_sem] c493 F493
def c494 : C := rs 0 (qE 2<|qE 3<|qz 4 0<|qe) <| rs 9 (qm 0<|qc 470<|q2 8 (.mov (.l 1))<|qx 0<|qy 1<|qY 2 2<|qV 5 3<|qV 6 4<|qV 7 5<|qe) <| i1 14 (qm 7<|qK .neq 0<|qe) 15 (rs 16 (qm 7<|qE 2<|qE 3<|qV 4 0<|qe) .ret) <| i1 17 (qm 5<|qm 6<|qh true<|qQ .gtr 0<|qe) 20 (rs 0 (qE 2<|qE 3<|qz 4 2<|qe) .ret) <| rt 21 (qm 6<|qm 5<|q1 (.sl true 0 (.l 0) none (some (.l 1)))<|qm 6<|qm 5<|q1 (.sl true 0 (.l 3) (some (.l 4)) none)<|qV 2 2<|qw 3<|qz 4 0<|qe) .ret
def F494 : F := mF 1 [.t 2,.t 3,.t 4] none c494
attribute [go_sem] c494 F494
def c495 : C := rs 0 (qF 2<|qE 3<|qz 4 0<|qe) <| i1 5 (qm 0<|qh true<|qK .eql 0<|qe) 7 (rs 0 (qF 2<|qE 3<|qz 4 2<|qe) .ret) <| i1 8 (qm 0<|q1 (.idx (.l 0) (ci 0))<|q3 (.bin .gtr (.l 1) (.c (.int .u8 1)))<|qe) 10 (rs 0 (qF 2<|qE 3<|qz 4 3<|qe) .ret) <| rt 11 (qm 0<|q1 (.idx (.l 0) (ci 0))<|q1 (.bin .eql (.l 1) (.c (.int .u8 1)))<|qm 0<|q1 (.sl true 0 (.l 3) (some (ci 1)) none)<|qV 2 2<|qw 3<|qz 4 0<|qe) .ret
def F495 : F := mF 1 [.t 2,.t 3,.t 4] none c495
attribute [go_sem] c495 F495
def c496 : C := rs 0 (qB 2 0<|qF 3<|qe) <| rs 4 (qr 2 0<|qf 1 0<|qj<|qq .geq 1<|qv 3<|qe) .ret
def F496 : F := mF 2 [.t 3] none c496
attribute [go_sem] c496 F496
def c499 : C := rs 0 (qB 2 0<|qF 4<|qe) <| rs 5 (qR 2 0 3<|qc 28<|ya<|qm 1<|qk .geq 0<|za 3<|ya<|qm 1<|qk .leq 1099511627776<|za 7<|qv 4<|qe) .ret
def F499 : F := mF 2 [.t 4] none c499
attribute [go_sem] c499 F499
def c500 : C := rs 0 (qB 1 0<|qE 2<|qz 3 0<|qe) <| i1 5 (qb 1 17<|qc 244<|qN<|qe) 7 (rs 0 (qE 2<|qz 3 1<|qe) .ret) <| rs 4 (q3 (.allo [.nslice 1] 10400)<|qe) <| rs 8 (qb 1 17<|q1 (.rcall 423 [.g 4,.l 0] 0 4 20000)<|qe) <| rs 10 (qr 4 0<|q1 (.b2s (.l 1))<|qv 2<|qz 3 0<|qe) .ret
def F500 : F := mF 1 [.t 2,.t 3] none c500
attribute [go_sem] c500 F500
def l501_0 : C := .loop [] [] [] [] (rs 9 (q3 (.bin .lss (.g 8) (.g 7))<|qe) <| sq (cd 9 .skip <| .exit 0) <| sq (bk 1 (rs 10 (qm 8<|qv 5<|qe) <| rs 11 (qm 1<|qm 0<|qm 5<|qi 17<|qJ 17<|q3 (.call (.v (.l 0)) .no none [.l 4])<|qe) <| cd 16 (rs 17 (qm 5<|qv 4<|qe) .ret) .skip)) <| r1 18 (q1 (.bin .add (.g 8) (ci 1))<|qv 8<|qe))
def c501 : C := rs 0 (qz 4 0<|qe) <| sq (rs 6 (qm 0<|qH false<|q3 (.mov (ci 0))<|qe) <| bk 0 l501_0) <| rs 0 (qz 4 (-1)<|qe) .ret
def F501 : F := mF 2 [.t 4] none c501
attribute [go_sem] c501 F501
def l502_0 : C := .loop [] [] [] [] (lq 9 (qm 0<|qK .gtr 0<|qe) 10 0 <| bk 1 (rs 11 (qm 3<|qm 0<|qk .rem 128<|q1 (.mks 1 1 [.int .i64 0] [(0,.l 2)])<|q1 (.app 6 1 (.l 0) (.l 3))<|qv 3<|qe) <| r1 16 (qm 0<|qk .quo 128<|qv 0<|qe)))
def c502 : C := rs 0 (qS 2 1<|qe) <| rs 4 (qm 0<|qk .rem 128<|q1 (.mkb 1 1 [.int .i64 0] [(0,.l 1)])<|qv 3<|qe) <| rs 7 (qm 0<|qk .quo 128<|qv 0<|qe) <| sq (bk 0 l502_0) <| rs 18 (qm 3<|qv 2<|qe) .ret
def F502 : F := mF 1 [.t 2] none c502
attribute [go_sem] c502 F502
def c503 : C := rs 0 (qE 2<|qe) <| rs 6 (qm 0<|qh true<|qc 487<|q2 5 (.mov (.l 2))<|qx 0<|qy 1<|qw 3<|qD 4<|q1 (.mov (.l 5))<|qe) <| rs 11 (qm 3<|qm 0<|qq .add 0<|qv 2<|qe) .ret
def F503 : F := mF 1 [.t 2] none c503
attribute [go_sem] c503 F503
def c504 : C := rs 0 (qE 2<|qe) <| i1 3 (q3 (.mov (.g 0))<|qe) 3 (rs 4 (q1 (.mks 1 1 [.int .u8 0] [(0,.c (.int .u8 1))])<|q1 (.b2s (.l 0))<|qv 2<|qe) .ret) <| rs 6 (q1 (.mks 1 1 [.int .u8 0] [(0,.c (.int .u8 0))])<|q1 (.b2s (.l 0))<|qv 2<|qe) .ret
def F504 : F := mF 1 [.t 2] none c504
attribute [go_sem] c504 F504
def l505_0 : C := .loop [] [] [] [] (rs 7 (q3 (.bin .lss (.g 6) (.g 5))<|qe) <| sq (cd 7 .skip <| .exit 0) <| sq (bk 1 (rs 8 (qm 6<|qv 3<|qe) <| rs 9 (qm 0<|qm 3<|q1 (.idx (.l 0) (.l 1))<|q3 (.bin .lss (.l 2) (.c (.int .u8 128)))<|qe) <| cd 12 (rs 0 (qz 2 3<|qe) .ret) .skip)) <| r1 13 (q1 (.bin .add (.g 6) (ci 1))<|qv 6<|qe))
def c505 : C := rs 0 (qz 2 0<|qe) <| sq (rs 4 (qm 0<|qH true<|q3 (.mov (ci 0))<|qe) <| bk 0 l505_0) <| rs 0 (qz 2 2<|qe) .ret
def F505 : F := mF 1 [.t 2] none c505
attribute [go_sem] c505 F505
def c506 : C := rs 0 (qE 2<|qE 3<|qz 4 0<|qe) <| rs 9 (qm 0<|qc 491<|q2 8 (.mov (.l 1))<|qx 0<|qy 1<|qY 2 2<|qV 5 3<|qV 6 4<|qV 7 5<|qe) <| i1 14 (qm 7<|qK .neq 0<|qe) 15 (rs 16 (qm 7<|qE 2<|qE 3<|qV 4 0<|qe) .ret) <| i1 17 (qm 6<|qh true<|qm 5<|qQ .lss 1<|qe) 20 (rs 0 (qE 2<|qE 3<|qz 4 2<|qe) .ret) <| rt 21 (qm 6<|qm 5<|q1 (.sl true 0 (.l 0) none (some (.l 1)))<|qm 6<|qm 5<|q1 (.sl true 0 (.l 3) (some (.l 4)) none)<|qV 2 2<|qw 3<|qz 4 0<|qe) .ret
def F506 : F := mF 1 [.t 2,.t 3,.t 4] none c506
attribute [go_sem] c506 F506
def c507 : C := rs 0 (qF 2<|qE 3<|qz 4 0<|qe) <| sq (bk 0 (rs 6 (qm 0<|q1 (.bin .eql (.l 0) (.c (.str [])))<|qv 5<|qe) <| cd 5 (rs 0 (qF 2<|qE 3<|qz 4 2<|qe) .ret) <| rs 9 (qm 0<|q1 (.idx (.l 0) (ci 0))<|q1 (.bin .gtr (.l 1) (.c (.int .u8 1)))<|qv 8<|qe) <| cd 8 (rs 0 (qF 2<|qE 3<|qz 4 3<|qe) .ret) .skip)) <| rt 12 (qm 0<|q1 (.idx (.l 0) (ci 0))<|q1 (.bin .eql (.l 1) (.c (.int .u8 1)))<|qm 0<|q1 (.sl true 0 (.l 3) (some (ci 1)) none)<|qV 2 2<|qw 3<|qz 4 0<|qe) .ret
def F507 : F := mF 1 [.t 2,.t 3,.t 4] none c507
attribute [go_sem] c507 F507
end Sg
namespace Sg
open _root_.Go _root_.Go.RowKit _root_.Go.Proofs _root_.Go.Shelf
def renU:Shelf.Ren:=⟨fun|197=>292|260=>312|n=>n,fun|0=>0|3=>3|4=>4|5=>5|9=>9|21=>21|46=>167|105=>342|119=>365|138=>367|139=>368|n=>n,fun|3=>0|4=>1|n=>n⟩
set_option maxRecDepth 1000000 in
theorem lays197:Lays.n197 Tryz.prog renU where
 mixed:=by kernel_rfl
 f197:=Tryz.func292.trans (congrArg some (by kernel_rfl))
 f260:=Tryz.func312.trans (congrArg some (by kernel_rfl))
 t0:=Tryz.underlying0
 a0:=Tryz.isAgg0
 z0:=Tryz.sizeOf0
 v0:=Tryz.zeroValue0
 t3:=Tryz.underlying3
 a3:=Tryz.isAgg3
 z3:=Tryz.sizeOf3
 v3:=Tryz.zeroValue3
 t4:=Tryz.underlying4
 a4:=Tryz.isAgg4
 z4:=Tryz.sizeOf4
 v4:=Tryz.zeroValue4
 t5:=Tryz.underlying5
 a5:=Tryz.isAgg5
 z5:=Tryz.sizeOf5
 v5:=Tryz.zeroValue5
 t9:=Tryz.underlying9
 a9:=Tryz.isAgg9
 z9:=Tryz.sizeOf9
 v9:=Tryz.zeroValue9
 t21:=Tryz.underlying21
 a21:=Tryz.isAgg21
 z21:=Tryz.sizeOf21
 v21:=Tryz.zeroValue21
 t46:=Tryz.underlying167
 a46:=Tryz.isAgg167
 z46:=Tryz.sizeOf167
 v46:=Tryz.zeroValue167
 t105:=Tryz.underlying342
 a105:=Tryz.isAgg342
 z105:=Tryz.sizeOf342
 v105:=Tryz.zeroValue342
 t119:=Tryz.underlying365
 a119:=Tryz.isAgg365
 z119:=Tryz.sizeOf365
 t138:=Tryz.underlying367
 a138:=Tryz.isAgg367
 z138:=Tryz.sizeOf367
 v138:=Tryz.zeroValue367
 t139:=Tryz.underlying368
 a139:=Tryz.isAgg368
 z139:=Tryz.sizeOf368
 v139:=Tryz.zeroValue368
 g3:=by kernel_rfl
 g4:=by kernel_rfl
theorem dec_walk (s:ByteArray) (w:World) (hT:Lib.Utf8Tabs 0 1 w) :
  Calls Tryz.prog 292 #[.string s] w fun e w'=>e=.returned (.tuple #[.int .i32 (Lib.decodeGo s).1,.int .i64 (Lib.decodeGo s).2])∧Below w.heap.size w w':=
 Any.utf8_DecodeRuneInString lays197 s w hT
theorem tabs_st (w w':World) (h:Lib.Utf8Tabs 0 1 w) (hb:∀b,b<2→w'.heap[b]?=w.heap[b]?):Lib.Utf8Tabs 0 1 w':=by
 have e:∀b o,b<2→w'.cell? ⟨b,o,none⟩=w.cell? ⟨b,o,none⟩:=fun b o hlt=>by
  simp only[World.cell?,hb b hlt]
 exact⟨fun c hc=>by rw[e _ _ (by decide)];exact h.1 c hc,fun i hi=>by rw[e _ _ (by decide),e _ _ (by decide)];exact h.2 i hi⟩
def cxU (l:List (Nat×Nat)):Cx where
 fm:=fun n=>(look l n).getD 0
 tm:=fun n=>n
 gn:=2
 G:=Lib.Utf8Tabs 0 1
 Gst:=tabs_st
set_option maxRecDepth 1000000 in
theorem key_walk (s:ByteArray) (w:World) (hgn:2≤w.heap.size) (hT:Lib.Utf8Tabs 0 1 w)
  (hplain:∀(r n:Int) (w:World),2≤w.heap.size→Lib.Utf8Tabs 0 1 w→Calls Tryz.prog 293 #[.int .i32 r,.int .i64 n] w fun e w'=>e=.returned (.bool (plainR r n))∧Below w.heap.size w w') :
  Calls Tryz.prog 260 #[.string s] w fun e w'=>e=.returned (.bool (keyR s.data.toList))∧Below w.heap.size w w':=by
 have t0:=Tryz.underlying0;have t3:=Tryz.underlying3;have t4:=Tryz.underlying4;have t9:=Tryz.underlying9;have t21:=Tryz.underlying21
 have hu0:=run_underlying t0;have hu3:=run_underlying t3;have hu4:=run_underlying t4;have hu9:=run_underlying t9;have hu21:=run_underlying t21
 have mixed:Tryz.prog.follows .mixedOrders=true:=by kernel_rfl
 have a0:=Tryz.isAgg0;have z0:=Tryz.sizeOf0;have v0:=Tryz.zeroValue0
 have a3:=Tryz.isAgg3;have z3:=Tryz.sizeOf3;have v3:=Tryz.zeroValue3
 have a4:=Tryz.isAgg4;have z4:=Tryz.sizeOf4;have v4:=Tryz.zeroValue4
 have a9:=Tryz.isAgg9;have z9:=Tryz.sizeOf9;have v9:=Tryz.zeroValue9
 have a21:=Tryz.isAgg21;have z21:=Tryz.sizeOf21;have v21:=Tryz.zeroValue21
 go_enter Tryz.func260,Tryz.ntmps260
 go_wp2
 go_loopw [3] (fun _ wr=>∃(pos fuel:Nat),wr.heap[w.heap.size]?=some (.stringIter s pos)∧Below w.heap.size w wr∧keyAll fuel (s.data.toList.drop pos)=keyAll s.size s.data.toList∧s.size≤pos+fuel) (fun _ wr=>s.size-wr.iterPos w.heap.size)
 case atStart=>
  refine⟨0,s.size,?_,(Below.refl _ w).alloc (Nat.le_refl _) _,by simp,by omega⟩
  have:=World.iter_heap w s 0
  simpa using this
 case round=>
  obtain⟨pos,fuel,hit,hbw,hacc,hfu⟩:=hrel
  have hsz:w.heap.size<wr.heap.size:=(Array.getElem?_eq_some_iff.1 hit).1
  have hbT:∀W:World,Below w.heap.size w W→Lib.Utf8Tabs 0 1 W:=fun W h=>tabs_st w W hT fun b hb=>h.block b (by omega)
  by_cases hp:pos<s.size
  ·have hnx:∀ty,(Instr.next (.pointer (some ⟨w.heap.size,0,none⟩)) true ty).run Tryz.prog wr=_:=fun ty=>Lib.run_next_any_at wr w.heap.size s pos ty hit hp
   have hbw2:=Lib.below_iterAt hbw (k:=w.heap.size) (by omega) s (pos+(Utf8.decode s pos).2)
   have hit2:=Lib.iterAt_heap wr w.heap.size s pos (pos+(Utf8.decode s pos).2) hit
   have hsz2:w.heap.size+1≤(wr.iterAt w.heap.size s (pos+(Utf8.decode s pos).2)).heap.size:=by rw[Lib.iterAt_size];omega
   have hde:∀n,n=s.size→Lib.decodeGo (s.extract pos n)=Utf8.decode s pos:=fun n hn=>decode_extract s pos n hn hp
   have hw1:=width_pos s pos
   obtain⟨f,rfl⟩:∃f,fuel=f+1:=⟨fuel-1,by omega⟩
   have hnil:s.data.toList.drop pos≠[]:=fun e=>by
    exact drop_ne s pos hp e
   have hdN:=decode_drop s pos
   simp only[keyAll,hnil,if_false,←hdN] at hacc
   generalize Utf8.decode s pos=D at *
   clear hdN hnil
   obtain⟨D1,D2⟩:=D
   simp only at hw1 hacc hbw2 hit2 hsz2 hde hnx
   have hsl:=size_list s
   have hfin:∀W:World,plainR D1 D2=false→keyR s.data.toList=false:=fun W hpl=>by
    rw[hpl,Bool.false_and] at hacc;rw[keyR,hsl,←hacc,Bool.false_and]
   clear hsl
   go_wp2_with (go_at_call 292;refine (dec_walk _ _ (hbT _ hbw2)).mono ?_;rintro e W1 ⟨rfl,b1⟩)
   have hb3:=hbw2.trans (b1.mono (by omega))
   have hs3:W1.heap.size≥w.heap.size+1:=Nat.le_trans hsz2 b1.size
   have hit3:W1.heap[w.heap.size]?=some (.stringIter s (pos+D2)):=(b1.block _ (by omega)).trans hit2
   have hpl:=hplain D1 D2 W1 (by omega) (hbT _ hb3)
   cases hP:plainR D1 D2 with
   |false=>
    rw[hP] at hpl
    have hke:=hfin w hP
    clear hacc hfin
    go_wp2_with (go_at_call 293;refine hpl.mono ?_;rintro e W2 ⟨rfl,b2⟩)
    have hb4:=hb3.trans (b2.mono (by omega))
    go_wp2
    go_ret
    rw[hke]
    exact⟨rfl,hb4⟩
   |true=>
    rw[hP,Bool.true_and,List.drop_drop] at hacc
    rw[hP] at hpl
    clear hfin
    obtain⟨kk,hkk⟩:∃kk,kk=keyAll s.size s.data.toList:=⟨_,rfl⟩
    go_wp2_with (go_at_call 293;refine hpl.mono ?_;rintro e W2 ⟨rfl,b2⟩)
    have hb4:=hb3.trans (b2.mono (by omega))
    have hit4:W2.heap[w.heap.size]?=some (.stringIter s (pos+D2)):=(b2.block _ (by omega)).trans hit3
    go_wp2
    go_roundw
    case rel=>exact⟨pos+D2,f,hit4,hb4,hacc,by omega⟩
    case measure=>
     simp only[World.iterPos,hit4,hit]
     omega
  ·have hnx:∀ty,(Instr.next (.pointer (some ⟨w.heap.size,0,none⟩)) true ty).run Tryz.prog wr=_:=fun ty=>Lib.run_next_end_at wr w.heap.size s pos ty hit hp
   have hall:keyAll s.size s.data.toList=true:=by
    rw[←hacc,List.drop_eq_nil_of_le (by rw[size_list];omega)];cases fuel<;>simp[keyAll]
   have hkey:keyR s.data.toList=(decide ((1:Int)≤s.size)&&decide ((s.size:Int)≤16)):=by
    rw[keyR,size_list,hall,Bool.true_and]
    congr 1<;>exact decide_eq_decide.2 (by omega)
   clear hacc hall
   by_cases h1:(1:Int)≤s.size
   ·rw[decide_eq_true h1,Bool.true_and] at hkey
    go_wp2
    go_ret
    exact⟨by first|rfl|(rw[hkey];rfl),hbw⟩
   ·rw[decide_eq_false h1,Bool.false_and] at hkey
    go_wp2
    go_ret
    exact⟨by first|rfl|(rw[hkey];rfl),hbw⟩
end Sg
namespace Sg
open Go.Proofs
open _root_.Go
def noQ:List V→Option V:=fun _=>none
def Qd:List (Nat×Nat):=[(418,7),(395,9),(406,21),(400,16),(417,33),(223,34),(397,12),(401,17),(345,11),(43,35),(427,49),(408,23),(40,50),(428,51),(420,40),(413,30),(407,22),(453,90),(454,91),(249,41),(421,42),(422,43),(423,44),(368,37),(68,93),(39,54),(462,113),(463,112),(430,55),(41,56),(431,58),(432,57),(464,114),(465,115),(466,116),(467,117),(341,59),(437,67),(438,68),(439,69),(440,70),(441,71),(15,72),(261,74),(442,73),(443,75),(444,76),(51,53),(429,52),(482,186),(244,99),(301,100),(28,101),(284,102),(455,103),(456,104),(457,105),(458,106),(63,119),(64,120),(65,121),(66,123),(67,122),(468,124),(490,204),(491,205),(492,206),(493,207),(366,125),(367,126),(57,136),(473,137),(54,138),(474,139),(240,140),(247,141),(475,142),(26,144),(27,143),(21,146),(47,145),(476,147),(477,148),(262,149),(256,150),(258,151),(265,152),(478,153),(253,154),(266,155),(267,156),(270,157),(271,158),(273,159),(275,160),(72,118),(398,14),(409,24),(411,28),(99,170),(186,188),(203,189),(81,190),(298,192),(299,191),(316,194),(32,195),(313,196),(483,197),(484,198),(485,199),(75,208),(76,209),(505,269),(506,270),(507,271),(74,216),(71,217),(496,218),(73,221),(499,222),(285,223),(286,224),(287,225),(171,193),(288,226),(289,227),(290,228),(291,229),(500,230),(31,231),(501,232),(217,234),(304,235),(303,236),(302,237),(308,238),(178,239),(309,240),(211,241),(311,242),(213,243),(91,244),(434,63),(435,64),(436,65),(246,66),(424,45),(192,261),(7,262),(97,263),(98,264),(315,265),(314,276),(82,277),(84,278),(200,279),(88,280),(312,281),(206,282),(17,283),(220,286),(221,287),(469,129),(470,130),(471,131),(472,132),(24,78),(293,133),(245,134),(300,135),(459,107),(460,108),(461,109),(191,293),(22,294),(319,296),(320,297),(100,298),(3,299),(10,303),(12,304),(25,305),(225,309),(226,310),(487,201),(494,210),(495,211),(292,163),(167,212),(204,213),(80,214),(142,215),(6,87),(486,200),(488,202),(489,203),(105,315),(106,314),(29,320),(30,321),(502,266),(168,245),(187,246),(4,247),(95,272),(96,273),(169,167),(503,267),(504,268),(188,288),(189,289),(195,290),(5,250),(69,92),(497,219),(498,220),(307,233),(170,260),(317,284),(318,285),(190,292),(222,300),(102,301),(103,302),(23,306),(227,311)]
def Qa:List (Nat×Fn):=[(418,.code F418),(395,.code F395),(406,.code F406),(400,.code F400),(417,.codeR F417 0),(223,.code F223),(397,.code F397),(401,.code F401),(345,.code F345),(43,.code F43),(427,.code F427),(408,.code F408),(40,.code F40),(428,.code F428),(420,.code F420),(413,.code F413),(407,.code F407),(453,.codeR F453 0),(454,.codeR F454 0),(249,.code F249),(421,.codeR F421 0),(422,.codeR F422 0),(423,.codeR F423 0),(368,.code F368),(68,.code F68),(39,.code F39),(462,.code F462),(463,.code F463),(430,.code F430),(41,.code F41),(431,.code F431),(432,.code F432),(464,.codeR F464 0),(465,.codeR F465 0),(466,.codeR F466 0),(467,.codeR F467 0),(341,.code F341),(437,.code F437),(438,.code F438),(439,.code F439),(440,.code F440),(441,.code F441),(15,.code F15),(261,.code F261),(442,.code F442),(443,.code F443),(444,.code F444),(51,.code F51),(429,.code F429),(482,.codeR F482 0),(244,.code F244),(301,.code F301),(28,.code F28),(284,.code F284),(455,.code F455),(456,.code F456),(457,.codeR F457 0),(458,.codeR F458 0),(63,.code F63),(64,.code F64),(65,.code F65),(66,.code F66),(67,.code F67),(468,.code F468),(490,.code F490),(491,.code F491),(492,.codeR F492 0),(493,.codeR F493 0),(366,.code F366),(367,.code F367),(57,.code F57),(473,.code F473),(54,.code F54),(474,.code F474),(240,.code F240),(247,.code F247),(475,.code F475),(26,.code F26),(27,.code F27),(21,.code F21),(47,.code F47),(476,.code F476),(477,.code F477),(262,.code F262),(256,.code F256),(258,.code F258),(265,.code F265),(478,.code F478),(253,.code F253),(266,.code F266),(267,.code F267),(270,.code F270),(271,.code F271),(273,.code F273),(275,.code F275),(72,.code F72),(398,.code F398),(409,.code F409),(411,.code F411),(99,.code F99),(186,.code F186),(203,.code F203),(81,.code F81),(298,.code F298),(299,.code F299),(316,.code F316),(32,.code F32),(313,.code F313),(483,.code F483),(484,.code F484),(485,.code F485),(75,.code F75),(76,.code F76),(505,.code F505),(506,.code F506),(507,.code F507),(74,.code F74),(71,.code F71),(496,.code F496),(73,.code F73),(499,.code F499),(285,.code F285),(286,.code F286),(287,.code F287),(171,.code F171),(288,.code F288),(289,.code F289),(290,.code F290),(291,.code F291),(500,.code F500),(31,.code F31),(501,.code F501),(217,.code F217),(304,.code F304),(303,.code F303),(302,.code F302),(308,.code F308),(178,.code F178),(309,.code F309),(211,.code F211),(311,.code F311),(213,.code F213),(91,.code F91),(434,.codeR F434 0),(435,.codeR F435 0),(436,.codeR F436 0),(246,.code F246),(424,.code F424),(192,.code F192),(7,.code F7),(97,.code F97),(98,.code F98),(315,.code F315),(314,.code F314),(82,.code F82),(84,.code F84),(200,.code F200),(88,.code F88),(312,.code F312),(206,.code F206),(17,.code F17),(220,.code F220),(221,.code F221),(469,.code F469),(470,.code F470),(471,.codeR F471 0),(472,.codeR F472 0),(24,.code F24),(293,.code F293),(245,.code F245),(300,.code F300),(459,.code F459),(460,.code F460),(461,.code F461),(22,.code F22),(319,.code F319),(320,.code F320),(100,.code F100),(3,.code F3),(10,.code F10),(12,.code F12),(25,.code F25),(225,.code F225),(226,.code F226),(487,.code F487),(494,.code F494),(495,.code F495),(292,.code F292),(167,.code F167),(204,.code F204),(80,.code F80),(142,.code F142),(6,.code F6),(486,.code F486),(488,.code F488),(489,.code F489),(105,.code F105),(106,.code F106),(29,.code F29),(30,.code F30),(502,.code F502),(168,.code F168),(187,.code F187),(4,.code F4),(95,.code F95),(96,.code F96),(169,.code F169),(503,.code F503),(504,.code F504),(188,.code F188),(189,.code F189),(195,.code F195),(5,.code F5),(69,.prim (some 0) (cloneQ 1)),(497,.prim (some 0) (cloneQ 9)),(498,.prim (some 1009) noQ),(307,.prim (some 0) (cloneQ 17)),(170,.prim none keyQ),(317,.prim (some 1017) noQ),(318,.prim (some 2017) noQ),(190,.prim none decQ),(222,.prim (some 1002) noQ),(102,.prim (some 0) (cloneQ 11)),(103,.prim (some 1011) noQ),(23,.prim (some 0) (cloneQ 5)),(227,.prim (some 0) (cloneQ 2))]
set_option maxRecDepth 100000
theorem okc {P:Go.Program} {cx:Cx} {tab:List (Nat×Fn)} {k:Nat} {F:F} {l:List (Nat×Fn)} (h:okF P cx (look tab) (cx.fm k) F=true) (t:okTab P cx tab l=true):okTab P cx tab ((k,.code F)::l)=true:=by simp[okTab,h,t]
theorem okcr {P:Go.Program} {cx:Cx} {tab:List (Nat×Fn)} {k j:Nat} {F:F} {l:List (Nat×Fn)} (h:okF P cx (look tab) (cx.fm k) F=true) (h2:rfQ F j=true) (t:okTab P cx tab l=true):okTab P cx tab ((k,.codeR F j)::l)=true:=by simp[okTab,h,h2,t]
theorem okp {P:Go.Program} {cx:Cx} {tab:List (Nat×Fn)} {k:Nat} {o:Option Nat} {p} {l:List (Nat×Fn)} (h:plQ o=true) (t:okTab P cx tab l=true):okTab P cx tab ((k,.prim o p)::l)=true:=by simp[okTab,h,t]
noncomputable abbrev okq (n:Nat) (x:F):Bool:=okF Tryz.prog (cxU Qd) (look Qa) ((cxU Qd).fm n) x
theorem ok418:okq 418 F418=true:=by kernel_rfl
theorem ok395:okq 395 F395=true:=by kernel_rfl
theorem ok406:okq 406 F406=true:=by kernel_rfl
theorem ok400:okq 400 F400=true:=by kernel_rfl
theorem ok417:okq 417 F417=true:=by kernel_rfl
theorem ok223:okq 223 F223=true:=by kernel_rfl
theorem ok397:okq 397 F397=true:=by kernel_rfl
theorem ok401:okq 401 F401=true:=by kernel_rfl
theorem ok345:okq 345 F345=true:=by kernel_rfl
theorem ok43:okq 43 F43=true:=by kernel_rfl
theorem ok427:okq 427 F427=true:=by kernel_rfl
theorem ok408:okq 408 F408=true:=by kernel_rfl
theorem ok40:okq 40 F40=true:=by kernel_rfl
theorem ok428:okq 428 F428=true:=by kernel_rfl
theorem ok420:okq 420 F420=true:=by kernel_rfl
theorem ok413:okq 413 F413=true:=by kernel_rfl
theorem ok407:okq 407 F407=true:=by kernel_rfl
theorem ok453:okq 453 F453=true:=by kernel_rfl
theorem ok454:okq 454 F454=true:=by kernel_rfl
theorem ok249:okq 249 F249=true:=by kernel_rfl
theorem ok421:okq 421 F421=true:=by kernel_rfl
theorem ok422:okq 422 F422=true:=by kernel_rfl
theorem ok423:okq 423 F423=true:=by kernel_rfl
theorem ok368:okq 368 F368=true:=by kernel_rfl
theorem ok68:okq 68 F68=true:=by kernel_rfl
theorem ok39:okq 39 F39=true:=by kernel_rfl
theorem ok462:okq 462 F462=true:=by kernel_rfl
theorem ok463:okq 463 F463=true:=by kernel_rfl
theorem ok430:okq 430 F430=true:=by kernel_rfl
theorem ok41:okq 41 F41=true:=by kernel_rfl
theorem ok431:okq 431 F431=true:=by kernel_rfl
theorem ok432:okq 432 F432=true:=by kernel_rfl
theorem ok464:okq 464 F464=true:=by kernel_rfl
theorem ok465:okq 465 F465=true:=by kernel_rfl
theorem ok466:okq 466 F466=true:=by kernel_rfl
theorem ok467:okq 467 F467=true:=by kernel_rfl
theorem ok341:okq 341 F341=true:=by kernel_rfl
theorem ok437:okq 437 F437=true:=by kernel_rfl
theorem ok438:okq 438 F438=true:=by kernel_rfl
theorem ok439:okq 439 F439=true:=by kernel_rfl
theorem ok440:okq 440 F440=true:=by kernel_rfl
theorem ok441:okq 441 F441=true:=by kernel_rfl
theorem ok15:okq 15 F15=true:=by kernel_rfl
theorem ok261:okq 261 F261=true:=by kernel_rfl
theorem ok442:okq 442 F442=true:=by kernel_rfl
theorem ok443:okq 443 F443=true:=by kernel_rfl
theorem ok444:okq 444 F444=true:=by kernel_rfl
theorem ok51:okq 51 F51=true:=by kernel_rfl
theorem ok429:okq 429 F429=true:=by kernel_rfl
theorem ok482:okq 482 F482=true:=by kernel_rfl
theorem ok244:okq 244 F244=true:=by kernel_rfl
theorem ok301:okq 301 F301=true:=by kernel_rfl
theorem ok28:okq 28 F28=true:=by kernel_rfl
theorem ok284:okq 284 F284=true:=by kernel_rfl
theorem ok455:okq 455 F455=true:=by kernel_rfl
theorem ok456:okq 456 F456=true:=by kernel_rfl
theorem ok457:okq 457 F457=true:=by kernel_rfl
theorem ok458:okq 458 F458=true:=by kernel_rfl
theorem ok63:okq 63 F63=true:=by kernel_rfl
theorem ok64:okq 64 F64=true:=by kernel_rfl
theorem ok65:okq 65 F65=true:=by kernel_rfl
theorem ok66:okq 66 F66=true:=by kernel_rfl
theorem ok67:okq 67 F67=true:=by kernel_rfl
theorem ok468:okq 468 F468=true:=by kernel_rfl
theorem ok490:okq 490 F490=true:=by kernel_rfl
theorem ok491:okq 491 F491=true:=by kernel_rfl
theorem ok492:okq 492 F492=true:=by kernel_rfl
theorem ok493:okq 493 F493=true:=by kernel_rfl
theorem ok366:okq 366 F366=true:=by kernel_rfl
theorem ok367:okq 367 F367=true:=by kernel_rfl
theorem ok57:okq 57 F57=true:=by kernel_rfl
theorem ok473:okq 473 F473=true:=by kernel_rfl
theorem ok54:okq 54 F54=true:=by kernel_rfl
theorem ok474:okq 474 F474=true:=by kernel_rfl
theorem ok240:okq 240 F240=true:=by kernel_rfl
theorem ok247:okq 247 F247=true:=by kernel_rfl
theorem ok475:okq 475 F475=true:=by kernel_rfl
theorem ok26:okq 26 F26=true:=by kernel_rfl
theorem ok27:okq 27 F27=true:=by kernel_rfl
theorem ok21:okq 21 F21=true:=by kernel_rfl
theorem ok47:okq 47 F47=true:=by kernel_rfl
theorem ok476:okq 476 F476=true:=by kernel_rfl
theorem ok477:okq 477 F477=true:=by kernel_rfl
theorem ok262:okq 262 F262=true:=by kernel_rfl
theorem ok256:okq 256 F256=true:=by kernel_rfl
theorem ok258:okq 258 F258=true:=by kernel_rfl
theorem ok265:okq 265 F265=true:=by kernel_rfl
theorem ok478:okq 478 F478=true:=by kernel_rfl
theorem ok253:okq 253 F253=true:=by kernel_rfl
theorem ok266:okq 266 F266=true:=by kernel_rfl
theorem ok267:okq 267 F267=true:=by kernel_rfl
theorem ok270:okq 270 F270=true:=by kernel_rfl
theorem ok271:okq 271 F271=true:=by kernel_rfl
theorem ok273:okq 273 F273=true:=by kernel_rfl
theorem ok275:okq 275 F275=true:=by kernel_rfl
theorem ok72:okq 72 F72=true:=by kernel_rfl
theorem ok398:okq 398 F398=true:=by kernel_rfl
theorem ok409:okq 409 F409=true:=by kernel_rfl
theorem ok411:okq 411 F411=true:=by kernel_rfl
theorem ok99:okq 99 F99=true:=by kernel_rfl
theorem ok186:okq 186 F186=true:=by kernel_rfl
theorem ok203:okq 203 F203=true:=by kernel_rfl
theorem ok81:okq 81 F81=true:=by kernel_rfl
theorem ok298:okq 298 F298=true:=by kernel_rfl
theorem ok299:okq 299 F299=true:=by kernel_rfl
theorem ok316:okq 316 F316=true:=by kernel_rfl
theorem ok32:okq 32 F32=true:=by kernel_rfl
theorem ok313:okq 313 F313=true:=by kernel_rfl
theorem ok483:okq 483 F483=true:=by kernel_rfl
theorem ok484:okq 484 F484=true:=by kernel_rfl
theorem ok485:okq 485 F485=true:=by kernel_rfl
theorem ok75:okq 75 F75=true:=by kernel_rfl
theorem ok76:okq 76 F76=true:=by kernel_rfl
theorem ok505:okq 505 F505=true:=by kernel_rfl
theorem ok506:okq 506 F506=true:=by kernel_rfl
theorem ok507:okq 507 F507=true:=by kernel_rfl
theorem ok74:okq 74 F74=true:=by kernel_rfl
theorem ok71:okq 71 F71=true:=by kernel_rfl
theorem ok496:okq 496 F496=true:=by kernel_rfl
theorem ok73:okq 73 F73=true:=by kernel_rfl
theorem ok499:okq 499 F499=true:=by kernel_rfl
theorem ok285:okq 285 F285=true:=by kernel_rfl
theorem ok286:okq 286 F286=true:=by kernel_rfl
theorem ok287:okq 287 F287=true:=by kernel_rfl
theorem ok171:okq 171 F171=true:=by kernel_rfl
theorem ok288:okq 288 F288=true:=by kernel_rfl
theorem ok289:okq 289 F289=true:=by kernel_rfl
theorem ok290:okq 290 F290=true:=by kernel_rfl
theorem ok291:okq 291 F291=true:=by kernel_rfl
theorem ok500:okq 500 F500=true:=by kernel_rfl
theorem ok31:okq 31 F31=true:=by kernel_rfl
theorem ok501:okq 501 F501=true:=by kernel_rfl
theorem ok217:okq 217 F217=true:=by kernel_rfl
theorem ok304:okq 304 F304=true:=by kernel_rfl
theorem ok303:okq 303 F303=true:=by kernel_rfl
theorem ok302:okq 302 F302=true:=by kernel_rfl
theorem ok308:okq 308 F308=true:=by kernel_rfl
theorem ok178:okq 178 F178=true:=by kernel_rfl
theorem ok309:okq 309 F309=true:=by kernel_rfl
theorem ok211:okq 211 F211=true:=by kernel_rfl
theorem ok311:okq 311 F311=true:=by kernel_rfl
theorem ok213:okq 213 F213=true:=by kernel_rfl
theorem ok91:okq 91 F91=true:=by kernel_rfl
theorem ok434:okq 434 F434=true:=by kernel_rfl
theorem ok435:okq 435 F435=true:=by kernel_rfl
theorem ok436:okq 436 F436=true:=by kernel_rfl
theorem ok246:okq 246 F246=true:=by kernel_rfl
theorem ok424:okq 424 F424=true:=by kernel_rfl
theorem ok192:okq 192 F192=true:=by kernel_rfl
theorem ok7:okq 7 F7=true:=by kernel_rfl
theorem ok97:okq 97 F97=true:=by kernel_rfl
theorem ok98:okq 98 F98=true:=by kernel_rfl
theorem ok315:okq 315 F315=true:=by kernel_rfl
theorem ok314:okq 314 F314=true:=by kernel_rfl
theorem ok82:okq 82 F82=true:=by kernel_rfl
theorem ok84:okq 84 F84=true:=by kernel_rfl
theorem ok200:okq 200 F200=true:=by kernel_rfl
theorem ok88:okq 88 F88=true:=by kernel_rfl
theorem ok312:okq 312 F312=true:=by kernel_rfl
theorem ok206:okq 206 F206=true:=by kernel_rfl
theorem ok17:okq 17 F17=true:=by kernel_rfl
theorem ok220:okq 220 F220=true:=by kernel_rfl
theorem ok221:okq 221 F221=true:=by kernel_rfl
theorem ok469:okq 469 F469=true:=by kernel_rfl
theorem ok470:okq 470 F470=true:=by kernel_rfl
theorem ok471:okq 471 F471=true:=by kernel_rfl
theorem ok472:okq 472 F472=true:=by kernel_rfl
theorem ok24:okq 24 F24=true:=by kernel_rfl
theorem ok293:okq 293 F293=true:=by kernel_rfl
theorem ok245:okq 245 F245=true:=by kernel_rfl
theorem ok300:okq 300 F300=true:=by kernel_rfl
theorem ok459:okq 459 F459=true:=by kernel_rfl
theorem ok460:okq 460 F460=true:=by kernel_rfl
theorem ok461:okq 461 F461=true:=by kernel_rfl
theorem ok22:okq 22 F22=true:=by kernel_rfl
theorem ok319:okq 319 F319=true:=by kernel_rfl
theorem ok320:okq 320 F320=true:=by kernel_rfl
theorem ok100:okq 100 F100=true:=by kernel_rfl
theorem ok3:okq 3 F3=true:=by kernel_rfl
theorem ok10:okq 10 F10=true:=by kernel_rfl
theorem ok12:okq 12 F12=true:=by kernel_rfl
theorem ok25:okq 25 F25=true:=by kernel_rfl
theorem ok225:okq 225 F225=true:=by kernel_rfl
theorem ok226:okq 226 F226=true:=by kernel_rfl
theorem ok487:okq 487 F487=true:=by kernel_rfl
theorem ok494:okq 494 F494=true:=by kernel_rfl
theorem ok495:okq 495 F495=true:=by kernel_rfl
theorem ok292:okq 292 F292=true:=by kernel_rfl
theorem ok167:okq 167 F167=true:=by kernel_rfl
theorem ok204:okq 204 F204=true:=by kernel_rfl
theorem ok80:okq 80 F80=true:=by kernel_rfl
theorem ok142:okq 142 F142=true:=by kernel_rfl
theorem ok6:okq 6 F6=true:=by kernel_rfl
theorem ok486:okq 486 F486=true:=by kernel_rfl
theorem ok488:okq 488 F488=true:=by kernel_rfl
theorem ok489:okq 489 F489=true:=by kernel_rfl
theorem ok105:okq 105 F105=true:=by kernel_rfl
theorem ok106:okq 106 F106=true:=by kernel_rfl
theorem ok29:okq 29 F29=true:=by kernel_rfl
theorem ok30:okq 30 F30=true:=by kernel_rfl
theorem ok502:okq 502 F502=true:=by kernel_rfl
theorem ok168:okq 168 F168=true:=by kernel_rfl
theorem ok187:okq 187 F187=true:=by kernel_rfl
theorem ok4:okq 4 F4=true:=by kernel_rfl
theorem ok95:okq 95 F95=true:=by kernel_rfl
theorem ok96:okq 96 F96=true:=by kernel_rfl
theorem ok169:okq 169 F169=true:=by kernel_rfl
theorem ok503:okq 503 F503=true:=by kernel_rfl
theorem ok504:okq 504 F504=true:=by kernel_rfl
theorem ok188:okq 188 F188=true:=by kernel_rfl
theorem ok189:okq 189 F189=true:=by kernel_rfl
theorem ok195:okq 195 F195=true:=by kernel_rfl
theorem ok5:okq 5 F5=true:=by kernel_rfl
theorem okAll:okTab Tryz.prog (cxU Qd) Qa Qa=true:=okc ok418 (okc ok395 (okc ok406 (okc ok400 (okcr ok417 rfl (okc ok223 (okc ok397 (okc ok401 (okc ok345 (okc ok43 (okc ok427 (okc ok408 (okc ok40 (okc ok428 (okc ok420 (okc ok413 (okc ok407 (okcr ok453 rfl (okcr ok454 rfl (okc ok249 (okcr ok421 rfl (okcr ok422 rfl (okcr ok423 rfl (okc ok368 (okc ok68 (okc ok39 (okc ok462 (okc ok463 (okc ok430 (okc ok41 (okc ok431 (okc ok432 (okcr ok464 rfl (okcr ok465 rfl (okcr ok466 rfl (okcr ok467 rfl (okc ok341 (okc ok437 (okc ok438 (okc ok439 (okc ok440 (okc ok441 (okc ok15 (okc ok261 (okc ok442 (okc ok443 (okc ok444 (okc ok51 (okc ok429 (okcr ok482 rfl (okc ok244 (okc ok301 (okc ok28 (okc ok284 (okc ok455 (okc ok456 (okcr ok457 rfl (okcr ok458 rfl (okc ok63 (okc ok64 (okc ok65 (okc ok66 (okc ok67 (okc ok468 (okc ok490 (okc ok491 (okcr ok492 rfl (okcr ok493 rfl (okc ok366 (okc ok367 (okc ok57 (okc ok473 (okc ok54 (okc ok474 (okc ok240 (okc ok247 (okc ok475 (okc ok26 (okc ok27 (okc ok21 (okc ok47 (okc ok476 (okc ok477 (okc ok262 (okc ok256 (okc ok258 (okc ok265 (okc ok478 (okc ok253 (okc ok266 (okc ok267 (okc ok270 (okc ok271 (okc ok273 (okc ok275 (okc ok72 (okc ok398 (okc ok409 (okc ok411 (okc ok99 (okc ok186 (okc ok203 (okc ok81 (okc ok298 (okc ok299 (okc ok316 (okc ok32 (okc ok313 (okc ok483 (okc ok484 (okc ok485 (okc ok75 (okc ok76 (okc ok505 (okc ok506 (okc ok507 (okc ok74 (okc ok71 (okc ok496 (okc ok73 (okc ok499 (okc ok285 (okc ok286 (okc ok287 (okc ok171 (okc ok288 (okc ok289 (okc ok290 (okc ok291 (okc ok500 (okc ok31 (okc ok501 (okc ok217 (okc ok304 (okc ok303 (okc ok302 (okc ok308 (okc ok178 (okc ok309 (okc ok211 (okc ok311 (okc ok213 (okc ok91 (okcr ok434 rfl (okcr ok435 rfl (okcr ok436 rfl (okc ok246 (okc ok424 (okc ok192 (okc ok7 (okc ok97 (okc ok98 (okc ok315 (okc ok314 (okc ok82 (okc ok84 (okc ok200 (okc ok88 (okc ok312 (okc ok206 (okc ok17 (okc ok220 (okc ok221 (okc ok469 (okc ok470 (okcr ok471 rfl (okcr ok472 rfl (okc ok24 (okc ok293 (okc ok245 (okc ok300 (okc ok459 (okc ok460 (okc ok461 (okc ok22 (okc ok319 (okc ok320 (okc ok100 (okc ok3 (okc ok10 (okc ok12 (okc ok25 (okc ok225 (okc ok226 (okc ok487 (okc ok494 (okc ok495 (okc ok292 (okc ok167 (okc ok204 (okc ok80 (okc ok142 (okc ok6 (okc ok486 (okc ok488 (okc ok489 (okc ok105 (okc ok106 (okc ok29 (okc ok30 (okc ok502 (okc ok168 (okc ok187 (okc ok4 (okc ok95 (okc ok96 (okc ok169 (okc ok503 (okc ok504 (okc ok188 (okc ok189 (okc ok195 (okc ok5 (okp rfl (okp rfl (okp rfl (okp rfl (okp rfl (okp rfl (okp rfl (okp rfl (okp rfl (okp rfl (okp rfl (okp rfl (okp rfl (rfl))))))))))))))))))))))))))))))))))))))))))))))))))))))))))))))))))))))))))))))))))))))))))))))))))))))))))))))))))))))))))))))))))))))))))))))))))))))))))))))))))))))))))))))))))))))))))))))))))))))))))))))))))))))))))))))))))
theorem okClone69:okF Tryz.prog (cxU Qd) (onePg 69 (cloneF 1 [.int .i64 0])) 92 (cloneF 1 [.int .i64 0])=true:=by kernel_rfl
theorem okClone497:okF Tryz.prog (cxU Qd) (onePg 497 (cloneF 9 [.int .i64 0,.int .i64 0,.int .i64 0,.slice 1 [],.int .i64 0,.str [],.str [],.slice 1 [],.slice 36 []])) 219 (cloneF 9 [.int .i64 0,.int .i64 0,.int .i64 0,.slice 1 [],.int .i64 0,.str [],.str [],.slice 1 [],.slice 36 []])=true:=by kernel_rfl
theorem okClone307:okF Tryz.prog (cxU Qd) (onePg 307 (cloneF 17 [.int .i64 0,.int .i64 0,.str [],.str [],.int .i64 0,.slice 2 [],.int .i64 0,.int .i64 0,.int .i64 0,.int .i64 0,.int .i64 0,.int .i64 0,.slice 11 [],.int .i64 0,.int .i64 0,.int .i64 0,.int .i64 0])) 233 (cloneF 17 [.int .i64 0,.int .i64 0,.str [],.str [],.int .i64 0,.slice 2 [],.int .i64 0,.int .i64 0,.int .i64 0,.int .i64 0,.int .i64 0,.int .i64 0,.slice 11 [],.int .i64 0,.int .i64 0,.int .i64 0,.int .i64 0])=true:=by kernel_rfl
theorem okClone102:okF Tryz.prog (cxU Qd) (onePg 102 (cloneF 11 [.int .i64 0,.int .i64 0,.int .i64 0,.int .i64 0,.int .i64 0,.int .i64 0,.bool false,.str [],.slice 2 [],.str [],.bool false])) 301 (cloneF 11 [.int .i64 0,.int .i64 0,.int .i64 0,.int .i64 0,.int .i64 0,.int .i64 0,.bool false,.str [],.slice 2 [],.str [],.bool false])=true:=by kernel_rfl
theorem okClone23:okF Tryz.prog (cxU Qd) (onePg 23 (cloneF 5 [.int .i64 0,.int .i64 0,.int .i64 0,.bool false,.str []])) 306 (cloneF 5 [.int .i64 0,.int .i64 0,.int .i64 0,.bool false,.str []])=true:=by kernel_rfl
theorem okClone227:okF Tryz.prog (cxU Qd) (onePg 227 (cloneF 2 [.str [],.slice 5 []])) 311 (cloneF 2 [.str [],.slice 5 []])=true:=by kernel_rfl
end Sg
namespace Sg
open Go Go.RowKit Go.Lib Go.Proofs
def insB:=And.intro Tryz.underlying0 (And.intro Tryz.underlying3 (And.intro Tryz.underlying4 (And.intro Tryz.isAgg0 (And.intro Tryz.isAgg3 (And.intro Tryz.isAgg4 (And.intro Tryz.sizeOf0 (And.intro Tryz.sizeOf3 (And.intro Tryz.sizeOf4 (And.intro Tryz.zeroValue0 (And.intro Tryz.zeroValue3 (And.intro Tryz.zeroValue4 (And.intro (run_underlying Tryz.underlying0) (And.intro (run_underlying Tryz.underlying3) ((run_underlying Tryz.underlying4)))))))))))))))
def insB220:=And.intro Tryz.underlying105 (And.intro Tryz.underlying22 (And.intro Tryz.isAgg105 (And.intro Tryz.isAgg22 (And.intro Tryz.sizeOf105 (And.intro Tryz.sizeOf22 (And.intro Tryz.zeroValue22 ((run_underlying Tryz.underlying22))))))))
set_option maxRecDepth 100000 in
theorem ins220_shift (b off n c i vb voff m vc:Nat) (cs vs:List Value) (w:World) (hi:i<n) (hm:0<m) (hroom:n+m≤c) (hlim:n+m≤1073741824) (hvb:vb≠b)
  (hcl:cs.length=n*9) (hvl:vs.length=m*9)
  (hcs:∀j v,cs[j]?=some v→w.cell? ⟨b,off+j,none⟩=some v) (hsp:∀j,j<(n+m)*9→(w.cell? ⟨b,off+j,none⟩).isSome=true) (hfz:∀j,w.frozen? ⟨b,j,none⟩=false)
  (hvs:∀j v,vs[j]?=some v→w.cell? ⟨vb,voff+j,none⟩=some v) (h1c:∀v∈cs,v.oneCell'=true) (h1v:∀v∈vs,v.oneCell'=true)
  (tA tB:TypeId) (kA kB:Nat) (hsa:w.shape? vb=some (tA,kA)) (hsb:w.shape? b=some (tB,kB)) (hkA:kA≠0) :
  Calls Tryz.prog 220 #[.slice (some ⟨b,off,none⟩) n c,.int .i64 i,.slice (some ⟨vb,voff,none⟩) m vc] w fun e w'=>
   e=.returned (.slice (some ⟨b,off,none⟩) (n+m) c)∧w'=(w.drew.setCells b (off+(i+m)*9) (cs.drop (i*9))).setCells b (off+i*9) vs:=by
 obtain⟨t0,t3,t4,a0,a3,a4,z0,z3,z4,v0,v3,v4,u0,u3,u4⟩:=insB
 obtain⟨t9,t24,a9,a24,z9,z24,v24,u24⟩:=insB220
 have hz1:¬((m:Int)=0):=by omega
 have hz2:¬((i:Int)=(n:Int)):=by omega
 have hsz:(Tryz.prog.info? 105).map (·.size)=some 9:=by kernel_rfl
 have hov:∀lb cb,(callFunc 274 #[.slice (some ⟨vb,voff,none⟩) m vc,.slice (some ⟨b,off+(i+m)*9,none⟩) lb cb]).run Tryz.prog w=.ok (.value (.bool false)) w:=fun lb cb=>by
  rw[run_callFunc_extern Tryz.func274 (by kernel_rfl) (by kernel_rfl) (by kernel_rfl) (e:=Extern.SlicesOverlaps.overlaps #[22,22] #[4]) (by kernel_rfl),
   run_overlaps_k w 22 4 105 t24 9 z9 ⟨vb,voff,none⟩ ⟨b,off+(i+m)*9,none⟩ m vc lb cb hvb tA tB kA kB hsa hsb hkA (hfz _) (hfz _)]
  rfl
 have mixed:Tryz.prog.follows .mixedOrders=true:=by kernel_rfl
 have hw1:IntKind.i64.wrap ((i:Int)+(m:Int))=(i:Int)+(m:Int):=by rw[IntKind.wrap_i64];omega
 have hb1:(0:Int)≤(i:Int)+(m:Int):=by omega
 have hin:i≤n:=by omega
 have htn:((i:Int)+(m:Int)).toNat=i+m:=by omega
 have hb2:¬(c=i+m):=by omega
 have hb3:(i:Int)≤(n:Int)+(m:Int):=by omega
 have hb4:¬(c=i):=by omega
 obtain⟨W1,hW1,hcp1,hcp2⟩:=ins_p1 t24 hsz b off n c i vb voff m vc cs vs w hi hm hvb hcl hvl hcs hsp hfz hvs h1c h1v
 go_enter Tryz.func220,Tryz.ntmps220
 go_wp2_with (simp only[hov])
 go_region_law_o (refine step_copy_k rfl _ _ 22 22 rfl _ _ (by simp[Act.eval,Act.put]) (by simp[Act.eval,Act.put]) (hcp1 _ _ _) ?_)
 go_wp2_with (at_builtin;refine wpList_copy_k _ rfl _ _ 22 22 rfl _ _ rfl rfl (hcp2 _ (fun _=>rfl) (fun _=>rfl) _ _) ?_)
 go_ret
 first|exact⟨rfl,rfl⟩|exact⟨rfl,by rw[hW1]⟩
set_option maxRecDepth 100000 in
theorem ins220_end (base:Option Addr) (n c m vc:Nat) (vb:Option Addr) (w w':World) (q:Value) (hm:0<m) (hnc:n≤c) (hlim:n+m≤1073741824) (hnil:base=none→n=0)
  (hrun:(Builtin.append_ #[22,22] 22 #[.slice base n c,.slice vb m vc]).run Tryz.prog w=.ok q w') :
  Calls Tryz.prog 220 #[.slice base n c,.int .i64 n,.slice vb m vc] w fun e w1=>e=.returned q∧w1=w':=by
 obtain⟨t0,t3,t4,a0,a3,a4,z0,z3,z4,v0,v3,v4,u0,u3,u4⟩:=insB
 obtain⟨t9,t24,a9,a24,z9,z24,v24,u24⟩:=insB220
 have mixed:Tryz.prog.follows .mixedOrders=true:=by kernel_rfl
 have hz1:¬((m:Int)=0):=by omega
 go_enter Tryz.func220,Tryz.ntmps220
 cases base with
 |none=>
  have h0:=hnil rfl
  subst h0
  go_wp2_with (at_builtin;refine Lib.wpList_append_run _ rfl _ _ _ _ rfl _ _ rfl rfl _ _ hrun ?_)
  all_goals (go_ret;exact⟨rfl,rfl⟩)
 |some a=>
  obtain⟨ab,ao,asp⟩:=a
  go_wp2_with (at_builtin;refine Lib.wpList_append_run _ rfl _ _ _ _ rfl _ _ rfl rfl _ _ hrun ?_)
  all_goals (go_ret;exact⟨rfl,rfl⟩)
set_option maxRecDepth 100000 in
theorem ins220_none (base:Option Addr) (n c i vc:Nat) (vb:Option Addr) (w:World) (hnc:n≤c) (hi:i≤n) (hnil:base=none→n=0) :
  Calls Tryz.prog 220 #[.slice base n c,.int .i64 i,.slice vb 0 vc] w fun e w1=>e=.returned (.slice base n c)∧w1=w:=by
 obtain⟨t0,t3,t4,a0,a3,a4,z0,z3,z4,v0,v3,v4,u0,u3,u4⟩:=insB
 obtain⟨t9,t24,a9,a24,z9,z24,v24,u24⟩:=insB220
 have mixed:Tryz.prog.follows .mixedOrders=true:=by kernel_rfl
 go_enter Tryz.func220,Tryz.ntmps220
 cases base with
 |none=>
  have h0:=hnil rfl
  subst h0
  have hi0:i=0:=by omega
  subst hi0
  go_wp2
  all_goals (go_ret;exact⟨rfl,rfl⟩)
 |some a=>
  obtain⟨ab,ao,asp⟩:=a
  go_wp2
  all_goals (go_ret;exact⟨rfl,rfl⟩)
set_option maxRecDepth 100000 in
theorem ins220_grow (b off n c i vb voff m vc:Nat) (cs vs:List Value) (w:World) (hi:i<n) (hm:0<m) (hnc:n≤c) (hroom:c<n+m) (hlim:n+m≤1073741824)
  (hcl:cs.length=n*9) (hvl:vs.length=m*9) (hbw:b<w.heap.size) (hvw:vb<w.heap.size)
  (hcs:∀j v,cs[j]?=some v→w.cell? ⟨b,off+j,none⟩=some v)
  (hvs:∀j v,vs[j]?=some v→w.cell? ⟨vb,voff+j,none⟩=some v) (h1c:∀v∈cs,v.oneCell'=true) (h1v:∀v∈vs,v.oneCell'=true) :
  Calls Tryz.prog 220 #[.slice (some ⟨b,off,none⟩) n c,.int .i64 i,.slice (some ⟨vb,voff,none⟩) m vc] w fun e w'=>
   ∃(G:Nat) (ROW:Array Value) (d1:Nat),n+m≤G∧(n+m)*9≤ROW.size∧ROW.size=G*9∧(∀(j:Nat) (v:Value),(cs.take (i*9))[j]?=some v→ROW[j]?=some v)∧e=.returned (.slice (some ⟨w.heap.size,0,none⟩) (n+m) G)∧
   w'=((({w with drawn:=d1}:World).alloc (.cells ROW 105)).setCells w.heap.size (i*9) vs).setCells w.heap.size ((i+m)*9) (cs.drop (i*9)):=by
 obtain⟨t0,t3,t4,a0,a3,a4,z0,z3,z4,v0,v3,v4,u0,u3,u4⟩:=insB
 obtain⟨t9,t24,a9,a24,z9,z24,v24,u24⟩:=insB220
 have mixed:Tryz.prog.follows .mixedOrders=true:=by kernel_rfl
 obtain⟨i0,hi0,hz0,hzs,hzb⟩:∃i0,Tryz.prog.info? 105=some i0∧i0.zero=some (Value.agg #[.int .i64 0,.int .i64 0,.int .i64 0,.slice none 0 0,.int .i64 0,.string ⟨#[]⟩,.string ⟨#[]⟩,.slice none 0 0,.slice none 0 0])∧i0.size=9∧i0.bytes=136:=⟨_,rfl,rfl,rfl,rfl⟩
 have hz1:¬((m:Int)=0):=by omega
 have hz2:¬((i:Int)=(n:Int)):=by omega
 have hz3:(c:Int)<(n:Int)+(m:Int):=by omega
 obtain⟨G,ROW,hGn,hRl,hRs,hRt,hG63,hrz,hcpA,hcpB⟩:=ins_p2 t24 t3 i0 (Value.agg #[.int .i64 0,.int .i64 0,.int .i64 0,.slice none 0 0,.int .i64 0,.string ⟨#[]⟩,.string ⟨#[]⟩,.slice none 0 0,.slice none 0 0]) hi0 hz0 hzs (by decide) (by rw[hzb];decide) (fun k=>by simp[Builtin.zeroCells,Value.cells]) b off n c i vb voff m vc cs vs w hi hm hnc hroom hlim hcl hvl hbw hvw hcs hvs h1c h1v
 have hGi:¬(G=i):=by omega
 have hGim:¬(G=i+m):=by omega
 have hci:¬(c=i):=by omega
 have hE1:∀x,((w.alloc (.cells ROW 105)).drew).cell? x=(w.drew.alloc (.cells ROW 105)).cell? x:=fun x=>rfl
 have hE2:∀x,((w.alloc (.cells ROW 105)).drew).frozen? x=(w.drew.alloc (.cells ROW 105)).frozen? x:=fun x=>rfl
 have hF1:∀x,(((w.alloc (.cells ROW 105)).drew.setCells w.heap.size (i*9) vs).drew).cell? x=((w.drew.alloc (.cells ROW 105)).setCells w.heap.size (i*9) vs).cell? x:=fun x=>rfl
 have hF2:∀x,(((w.alloc (.cells ROW 105)).drew.setCells w.heap.size (i*9) vs).drew).frozen? x=((w.drew.alloc (.cells ROW 105)).setCells w.heap.size (i*9) vs).frozen? x:=fun x=>rfl
 have hw1:IntKind.i64.wrap ((i:Int)+(m:Int))=(i:Int)+(m:Int):=by rw[IntKind.wrap_i64];omega
 have hb1:(0:Int)≤(i:Int)+(m:Int):=by omega
 have hin:i≤n:=by omega
 have htn:((i:Int)+(m:Int)).toNat=i+m:=by omega
 have hb3:(i:Int)≤(n:Int):=by omega
 go_enter Tryz.func220,Tryz.ntmps220
 go_wp2_with (first
  |(at_builtin;refine Lib.wpList_append_run _ rfl _ _ _ _ rfl _ _ rfl rfl _ _ (hrz _) ?_)
  |(at_builtin;refine wpList_copy_k _ rfl _ _ 22 22 rfl _ _ rfl rfl (hcpA _ hE1 hE2 _ _) ?_)
  |(at_builtin;refine wpList_copy_k _ rfl _ _ 22 22 rfl _ _ rfl rfl (hcpB _ (fun _=>rfl) (fun _=>rfl) _ _ _) ?_))
 go_region_law_o (refine step_copy_k rfl _ _ 22 22 rfl (.slice (some ⟨w.heap.size,(i+m)*9,none⟩) (n+m-(i+m)) (G-(i+m))) (.slice (some ⟨b,off+i*9,none⟩) (n-i) (c-i)) (by simp[Act.eval,Act.put]) (by simp[Act.eval,Act.put]) (hcpB _ hF1 hF2 3 (G-(i+m)) (c-i)) ?_)
 go_wp2
 go_ret
 exact⟨G,ROW,w.drew.drew.drawn,hGn,hRl,hRs,hRt,rfl,by first|rfl|(rw[drew_setK];rfl)|(simp only[drew_setK];rfl)⟩
theorem insC220:InsC Tryz.prog 220 9 22 105 where
 ent:=⟨Tryz.f220,Tryz.func220,by kernel_rfl,by kernel_rfl⟩
 hS:=Tryz.underlying22
 hz:=by kernel_rfl
 pos:=by decide
 info:=⟨_,(Value.agg #[.int .i64 0,.int .i64 0,.int .i64 0,.slice none 0 0,.int .i64 0,.string ⟨#[]⟩,.string ⟨#[]⟩,.slice none 0 0,.slice none 0 0]),rfl,by decide,rfl,rfl⟩
 nothing:=fun base n c i vc vb w h1 h2 h3=>ins220_none base n c i vc vb w h1 h2 h3
 end_:=fun base n c m vc vb w w' q h1 h2 h3 h4 h5=>ins220_end base n c m vc vb w w' q h1 h2 h3 h4 h5
 shift:=fun b off n c i vb voff m vc cs vs w h1 h2 h3 h4 h5 h6 h7 h8 h9 h10 h11 h12 h13 tA tB kA kB h14 h15 h16=>ins220_shift b off n c i vb voff m vc cs vs w h1 h2 h3 h4 h5 h6 h7 h8 h9 h10 h11 h12 h13 tA tB kA kB h14 h15 h16
 grow:=fun b off n c i vb voff m vc cs vs w h1 h2 h3 h4 h5 h6 h7 h8 h9 h10 h11 h12 h13=>ins220_grow b off n c i vb voff m vc cs vs w h1 h2 h3 h4 h5 h6 h7 h8 h9 h10 h11 h12 h13
def insB284:=And.intro Tryz.underlying93 (And.intro Tryz.underlying35 (And.intro Tryz.isAgg93 (And.intro Tryz.isAgg35 (And.intro Tryz.sizeOf93 (And.intro Tryz.sizeOf35 (And.intro Tryz.zeroValue35 ((run_underlying Tryz.underlying35))))))))
set_option maxRecDepth 100000 in
theorem ins284_shift (b off n c i vb voff m vc:Nat) (cs vs:List Value) (w:World) (hi:i<n) (hm:0<m) (hroom:n+m≤c) (hlim:n+m≤1073741824) (hvb:vb≠b)
  (hcl:cs.length=n*17) (hvl:vs.length=m*17)
  (hcs:∀j v,cs[j]?=some v→w.cell? ⟨b,off+j,none⟩=some v) (hsp:∀j,j<(n+m)*17→(w.cell? ⟨b,off+j,none⟩).isSome=true) (hfz:∀j,w.frozen? ⟨b,j,none⟩=false)
  (hvs:∀j v,vs[j]?=some v→w.cell? ⟨vb,voff+j,none⟩=some v) (h1c:∀v∈cs,v.oneCell'=true) (h1v:∀v∈vs,v.oneCell'=true)
  (tA tB:TypeId) (kA kB:Nat) (hsa:w.shape? vb=some (tA,kA)) (hsb:w.shape? b=some (tB,kB)) (hkA:kA≠0) :
  Calls Tryz.prog 284 #[.slice (some ⟨b,off,none⟩) n c,.int .i64 i,.slice (some ⟨vb,voff,none⟩) m vc] w fun e w'=>
   e=.returned (.slice (some ⟨b,off,none⟩) (n+m) c)∧w'=(w.drew.setCells b (off+(i+m)*17) (cs.drop (i*17))).setCells b (off+i*17) vs:=by
 obtain⟨t0,t3,t4,a0,a3,a4,z0,z3,z4,v0,v3,v4,u0,u3,u4⟩:=insB
 obtain⟨t9,t24,a9,a24,z9,z24,v24,u24⟩:=insB284
 have hz1:¬((m:Int)=0):=by omega
 have hz2:¬((i:Int)=(n:Int)):=by omega
 have hsz:(Tryz.prog.info? 93).map (·.size)=some 17:=by kernel_rfl
 have hov:∀lb cb,(callFunc 307 #[.slice (some ⟨vb,voff,none⟩) m vc,.slice (some ⟨b,off+(i+m)*17,none⟩) lb cb]).run Tryz.prog w=.ok (.value (.bool false)) w:=fun lb cb=>by
  rw[run_callFunc_extern Tryz.func307 (by kernel_rfl) (by kernel_rfl) (by kernel_rfl) (e:=Extern.SlicesOverlaps.overlaps #[35,35] #[4]) (by kernel_rfl),
   run_overlaps_k w 35 4 93 t24 17 z9 ⟨vb,voff,none⟩ ⟨b,off+(i+m)*17,none⟩ m vc lb cb hvb tA tB kA kB hsa hsb hkA (hfz _) (hfz _)]
  rfl
 have mixed:Tryz.prog.follows .mixedOrders=true:=by kernel_rfl
 have hw1:IntKind.i64.wrap ((i:Int)+(m:Int))=(i:Int)+(m:Int):=by rw[IntKind.wrap_i64];omega
 have hb1:(0:Int)≤(i:Int)+(m:Int):=by omega
 have hin:i≤n:=by omega
 have htn:((i:Int)+(m:Int)).toNat=i+m:=by omega
 have hb2:¬(c=i+m):=by omega
 have hb3:(i:Int)≤(n:Int)+(m:Int):=by omega
 have hb4:¬(c=i):=by omega
 obtain⟨W1,hW1,hcp1,hcp2⟩:=ins_p1 t24 hsz b off n c i vb voff m vc cs vs w hi hm hvb hcl hvl hcs hsp hfz hvs h1c h1v
 go_enter Tryz.func284,Tryz.ntmps284
 go_wp2_with (simp only[hov])
 go_region_law_o (refine step_copy_k rfl _ _ 35 35 rfl _ _ (by simp[Act.eval,Act.put]) (by simp[Act.eval,Act.put]) (hcp1 _ _ _) ?_)
 go_wp2_with (at_builtin;refine wpList_copy_k _ rfl _ _ 35 35 rfl _ _ rfl rfl (hcp2 _ (fun _=>rfl) (fun _=>rfl) _ _) ?_)
 go_ret
 first|exact⟨rfl,rfl⟩|exact⟨rfl,by rw[hW1]⟩
set_option maxRecDepth 100000 in
theorem ins284_end (base:Option Addr) (n c m vc:Nat) (vb:Option Addr) (w w':World) (q:Value) (hm:0<m) (hnc:n≤c) (hlim:n+m≤1073741824) (hnil:base=none→n=0)
  (hrun:(Builtin.append_ #[35,35] 35 #[.slice base n c,.slice vb m vc]).run Tryz.prog w=.ok q w') :
  Calls Tryz.prog 284 #[.slice base n c,.int .i64 n,.slice vb m vc] w fun e w1=>e=.returned q∧w1=w':=by
 obtain⟨t0,t3,t4,a0,a3,a4,z0,z3,z4,v0,v3,v4,u0,u3,u4⟩:=insB
 obtain⟨t9,t24,a9,a24,z9,z24,v24,u24⟩:=insB284
 have mixed:Tryz.prog.follows .mixedOrders=true:=by kernel_rfl
 have hz1:¬((m:Int)=0):=by omega
 go_enter Tryz.func284,Tryz.ntmps284
 cases base with
 |none=>
  have h0:=hnil rfl
  subst h0
  go_wp2_with (at_builtin;refine Lib.wpList_append_run _ rfl _ _ _ _ rfl _ _ rfl rfl _ _ hrun ?_)
  all_goals (go_ret;exact⟨rfl,rfl⟩)
 |some a=>
  obtain⟨ab,ao,asp⟩:=a
  go_wp2_with (at_builtin;refine Lib.wpList_append_run _ rfl _ _ _ _ rfl _ _ rfl rfl _ _ hrun ?_)
  all_goals (go_ret;exact⟨rfl,rfl⟩)
set_option maxRecDepth 100000 in
theorem ins284_none (base:Option Addr) (n c i vc:Nat) (vb:Option Addr) (w:World) (hnc:n≤c) (hi:i≤n) (hnil:base=none→n=0) :
  Calls Tryz.prog 284 #[.slice base n c,.int .i64 i,.slice vb 0 vc] w fun e w1=>e=.returned (.slice base n c)∧w1=w:=by
 obtain⟨t0,t3,t4,a0,a3,a4,z0,z3,z4,v0,v3,v4,u0,u3,u4⟩:=insB
 obtain⟨t9,t24,a9,a24,z9,z24,v24,u24⟩:=insB284
 have mixed:Tryz.prog.follows .mixedOrders=true:=by kernel_rfl
 go_enter Tryz.func284,Tryz.ntmps284
 cases base with
 |none=>
  have h0:=hnil rfl
  subst h0
  have hi0:i=0:=by omega
  subst hi0
  go_wp2
  all_goals (go_ret;exact⟨rfl,rfl⟩)
 |some a=>
  obtain⟨ab,ao,asp⟩:=a
  go_wp2
  all_goals (go_ret;exact⟨rfl,rfl⟩)
set_option maxRecDepth 100000 in
theorem ins284_grow (b off n c i vb voff m vc:Nat) (cs vs:List Value) (w:World) (hi:i<n) (hm:0<m) (hnc:n≤c) (hroom:c<n+m) (hlim:n+m≤1073741824)
  (hcl:cs.length=n*17) (hvl:vs.length=m*17) (hbw:b<w.heap.size) (hvw:vb<w.heap.size)
  (hcs:∀j v,cs[j]?=some v→w.cell? ⟨b,off+j,none⟩=some v)
  (hvs:∀j v,vs[j]?=some v→w.cell? ⟨vb,voff+j,none⟩=some v) (h1c:∀v∈cs,v.oneCell'=true) (h1v:∀v∈vs,v.oneCell'=true) :
  Calls Tryz.prog 284 #[.slice (some ⟨b,off,none⟩) n c,.int .i64 i,.slice (some ⟨vb,voff,none⟩) m vc] w fun e w'=>
   ∃(G:Nat) (ROW:Array Value) (d1:Nat),n+m≤G∧(n+m)*17≤ROW.size∧ROW.size=G*17∧(∀(j:Nat) (v:Value),(cs.take (i*17))[j]?=some v→ROW[j]?=some v)∧e=.returned (.slice (some ⟨w.heap.size,0,none⟩) (n+m) G)∧
   w'=((({w with drawn:=d1}:World).alloc (.cells ROW 93)).setCells w.heap.size (i*17) vs).setCells w.heap.size ((i+m)*17) (cs.drop (i*17)):=by
 obtain⟨t0,t3,t4,a0,a3,a4,z0,z3,z4,v0,v3,v4,u0,u3,u4⟩:=insB
 obtain⟨t9,t24,a9,a24,z9,z24,v24,u24⟩:=insB284
 have mixed:Tryz.prog.follows .mixedOrders=true:=by kernel_rfl
 obtain⟨i0,hi0,hz0,hzs,hzb⟩:∃i0,Tryz.prog.info? 93=some i0∧i0.zero=some (Value.agg #[.int .i64 0,.int .i64 0,.string ⟨#[]⟩,.string ⟨#[]⟩,.int .i64 0,.slice none 0 0,.int .i64 0,.int .i64 0,.int .i64 0,.int .i64 0,.int .i64 0,.int .i64 0,.slice none 0 0,.int .i64 0,.int .i64 0,.int .i64 0,.int .i64 0])∧i0.size=17∧i0.bytes=184:=⟨_,rfl,rfl,rfl,rfl⟩
 have hz1:¬((m:Int)=0):=by omega
 have hz2:¬((i:Int)=(n:Int)):=by omega
 have hz3:(c:Int)<(n:Int)+(m:Int):=by omega
 obtain⟨G,ROW,hGn,hRl,hRs,hRt,hG63,hrz,hcpA,hcpB⟩:=ins_p2 t24 t3 i0 (Value.agg #[.int .i64 0,.int .i64 0,.string ⟨#[]⟩,.string ⟨#[]⟩,.int .i64 0,.slice none 0 0,.int .i64 0,.int .i64 0,.int .i64 0,.int .i64 0,.int .i64 0,.int .i64 0,.slice none 0 0,.int .i64 0,.int .i64 0,.int .i64 0,.int .i64 0]) hi0 hz0 hzs (by decide) (by rw[hzb];decide) (fun k=>by simp[Builtin.zeroCells,Value.cells]) b off n c i vb voff m vc cs vs w hi hm hnc hroom hlim hcl hvl hbw hvw hcs hvs h1c h1v
 have hGi:¬(G=i):=by omega
 have hGim:¬(G=i+m):=by omega
 have hci:¬(c=i):=by omega
 have hE1:∀x,((w.alloc (.cells ROW 93)).drew).cell? x=(w.drew.alloc (.cells ROW 93)).cell? x:=fun x=>rfl
 have hE2:∀x,((w.alloc (.cells ROW 93)).drew).frozen? x=(w.drew.alloc (.cells ROW 93)).frozen? x:=fun x=>rfl
 have hF1:∀x,(((w.alloc (.cells ROW 93)).drew.setCells w.heap.size (i*17) vs).drew).cell? x=((w.drew.alloc (.cells ROW 93)).setCells w.heap.size (i*17) vs).cell? x:=fun x=>rfl
 have hF2:∀x,(((w.alloc (.cells ROW 93)).drew.setCells w.heap.size (i*17) vs).drew).frozen? x=((w.drew.alloc (.cells ROW 93)).setCells w.heap.size (i*17) vs).frozen? x:=fun x=>rfl
 have hw1:IntKind.i64.wrap ((i:Int)+(m:Int))=(i:Int)+(m:Int):=by rw[IntKind.wrap_i64];omega
 have hb1:(0:Int)≤(i:Int)+(m:Int):=by omega
 have hin:i≤n:=by omega
 have htn:((i:Int)+(m:Int)).toNat=i+m:=by omega
 have hb3:(i:Int)≤(n:Int):=by omega
 go_enter Tryz.func284,Tryz.ntmps284
 go_wp2_with (first
  |(at_builtin;refine Lib.wpList_append_run _ rfl _ _ _ _ rfl _ _ rfl rfl _ _ (hrz _) ?_)
  |(at_builtin;refine wpList_copy_k _ rfl _ _ 35 35 rfl _ _ rfl rfl (hcpA _ hE1 hE2 _ _) ?_)
  |(at_builtin;refine wpList_copy_k _ rfl _ _ 35 35 rfl _ _ rfl rfl (hcpB _ (fun _=>rfl) (fun _=>rfl) _ _ _) ?_))
 go_region_law_o (refine step_copy_k rfl _ _ 35 35 rfl (.slice (some ⟨w.heap.size,(i+m)*17,none⟩) (n+m-(i+m)) (G-(i+m))) (.slice (some ⟨b,off+i*17,none⟩) (n-i) (c-i)) (by simp[Act.eval,Act.put]) (by simp[Act.eval,Act.put]) (hcpB _ hF1 hF2 3 (G-(i+m)) (c-i)) ?_)
 go_wp2
 go_ret
 exact⟨G,ROW,w.drew.drew.drawn,hGn,hRl,hRs,hRt,rfl,by first|rfl|(rw[drew_setK];rfl)|(simp only[drew_setK];rfl)⟩
theorem insC284:InsC Tryz.prog 284 17 35 93 where
 ent:=⟨Tryz.f284,Tryz.func284,by kernel_rfl,by kernel_rfl⟩
 hS:=Tryz.underlying35
 hz:=by kernel_rfl
 pos:=by decide
 info:=⟨_,(Value.agg #[.int .i64 0,.int .i64 0,.string ⟨#[]⟩,.string ⟨#[]⟩,.int .i64 0,.slice none 0 0,.int .i64 0,.int .i64 0,.int .i64 0,.int .i64 0,.int .i64 0,.int .i64 0,.slice none 0 0,.int .i64 0,.int .i64 0,.int .i64 0,.int .i64 0]),rfl,by decide,rfl,rfl⟩
 nothing:=fun base n c i vc vb w h1 h2 h3=>ins284_none base n c i vc vb w h1 h2 h3
 end_:=fun base n c m vc vb w w' q h1 h2 h3 h4 h5=>ins284_end base n c m vc vb w w' q h1 h2 h3 h4 h5
 shift:=fun b off n c i vb voff m vc cs vs w h1 h2 h3 h4 h5 h6 h7 h8 h9 h10 h11 h12 h13 tA tB kA kB h14 h15 h16=>ins284_shift b off n c i vb voff m vc cs vs w h1 h2 h3 h4 h5 h6 h7 h8 h9 h10 h11 h12 h13 tA tB kA kB h14 h15 h16
 grow:=fun b off n c i vb voff m vc cs vs w h1 h2 h3 h4 h5 h6 h7 h8 h9 h10 h11 h12 h13=>ins284_grow b off n c i vb voff m vc cs vs w h1 h2 h3 h4 h5 h6 h7 h8 h9 h10 h11 h12 h13
def insB285:=And.intro Tryz.underlying93 (And.intro Tryz.underlying35 (And.intro Tryz.isAgg93 (And.intro Tryz.isAgg35 (And.intro Tryz.sizeOf93 (And.intro Tryz.sizeOf35 (And.intro Tryz.zeroValue35 ((run_underlying Tryz.underlying35))))))))
set_option maxRecDepth 100000 in
theorem del285_none (base:Option Addr) (n c i:Nat) (w:World) (hnc:n≤c) (hi:i≤n) (hnil:base=none→n=0) :
  Calls Tryz.prog 285 #[.slice base n c,.int .i64 i,.int .i64 i] w fun e w1=>e=.returned (.slice base n c)∧w1=w:=by
 obtain⟨t0,t3,t4,a0,a3,a4,z0,z3,z4,v0,v3,v4,u0,u3,u4⟩:=insB
 obtain⟨t9,t24,a9,a24,z9,z24,v24,u24⟩:=insB285
 have mixed:Tryz.prog.follows .mixedOrders=true:=by kernel_rfl
 go_enter Tryz.func285,Tryz.ntmps285
 cases base with
 |none=>
  have h0:=hnil rfl
  subst h0
  have hi0:i=0:=by omega
  subst hi0
  go_wp2
  all_goals (go_ret;exact⟨rfl,rfl⟩)
 |some a=>
  obtain⟨ab,ao,asp⟩:=a
  go_wp2
  all_goals (go_ret;exact⟨rfl,rfl⟩)
set_option maxRecDepth 100000 in
theorem del285_cut (b off n c i j:Nat) (cs:List Value) (w:World) (hij:i<j) (hj:j≤n) (hnc:n≤c) (hlim:n≤1073741824) (hcl:cs.length=n*17)
  (hcs:∀(j:Nat) (v:Value),cs[j]?=some v→w.cell? ⟨b,off+j,none⟩=some v) (hfz:∀j,w.frozen? ⟨b,j,none⟩=false) (h1c:∀v∈cs,v.oneCell'=true) :
  Calls Tryz.prog 285 #[.slice (some ⟨b,off,none⟩) n c,.int .i64 i,.int .i64 j] w fun e w'=>
   e=.returned (.slice (some ⟨b,off,none⟩) (n-(j-i)) c)∧∃(d1:Nat) (zs:List Value),zs.length=(j-i)*17∧(∀v∈zs,v.oneCell'=true)∧
   w'=((({w with drawn:=d1}:World)).setCells b (off+i*17) (cs.drop (j*17))).setCells b (off+(n-(j-i))*17) zs:=by
 obtain⟨t0,t3,t4,a0,a3,a4,z0,z3,z4,v0,v3,v4,u0,u3,u4⟩:=insB
 obtain⟨t9,t24,a9,a24,z9,z24,v24,u24⟩:=insB285
 have mixed:Tryz.prog.follows .mixedOrders=true:=by kernel_rfl
 obtain⟨i0,hi0,hzs,hzb⟩:∃i0,Tryz.prog.info? 93=some i0∧i0.size=17∧i0.bytes=184:=⟨_,rfl,rfl,rfl⟩
 have hv9:∀w,(zeroValue 93).run Tryz.prog w=.ok (Value.agg #[.int .i64 0,.int .i64 0,.string ⟨#[]⟩,.string ⟨#[]⟩,.int .i64 0,.slice none 0 0,.int .i64 0,.int .i64 0,.int .i64 0,.int .i64 0,.int .i64 0,.int .i64 0,.slice none 0 0,.int .i64 0,.int .i64 0,.int .i64 0,.int .i64 0]) w:=Tryz.zeroValue93
 obtain⟨news,hnews⟩:∃news,news=cs.drop (j*17):=⟨_,rfl⟩
 have hlen:news.length=(n-j)*17:=by rw[hnews,List.length_drop,hcl];omega
 obtain⟨A,hA,hsrc⟩:∃A:Addr,(if c=j then some (⟨b,off,none⟩:Addr) else some ⟨b,off+j*17,none⟩)=some A∧Hid (∀t u,news[t]?=some u→w.drew.cell? (A.add t)=some u):=by
  by_cases h:c=j
  ·refine⟨⟨b,off,none⟩,by simp[h],fun t u hu=>?_⟩;have h0:news.length=0:=by rw[hlen];omega
   rw[List.length_eq_zero_iff.1 h0] at hu;simp at hu
  ·refine⟨⟨b,off+j*17,none⟩,by simp[h],fun t u hu=>?_⟩;rw[Addr.add_lit,Nat.add_assoc];refine hcs (j*17+t) u ?_;rw[hnews,List.getElem?_drop] at hu;exact hu
 have s1:Hid (news.length=(n-j)*17):=hlen
 have s2:Hid (∀u∈news,u.oneCell'=true):=fun u hu=>h1c u (List.mem_of_mem_drop (hnews▸hu))
 have hcell:∀k,k<n*17→(w.cell? ⟨b,off+k,none⟩).isSome=true:=fun k hk=>by
  have hk':k<cs.length:=by omega
  rw[hcs k cs[k] (by simp)];rfl
 have s3:Hid (∀t,t<news.length→(w.drew.cell? ⟨b,off+i*17+t,none⟩).isSome=true∧w.drew.frozen? ⟨b,off+i*17+t,none⟩=false):=by
  intro t ht;rw[hlen] at ht;rw[Nat.add_assoc];exact⟨hcell _ (by omega),hfz _⟩
 obtain⟨W1,hW1⟩:∃W1,W1=w.drew.setCells b (off+i*17) news:=⟨_,rfl⟩
 have hZl:∀k,(Builtin.zeroCells (Value.agg #[.int .i64 0,.int .i64 0,.string ⟨#[]⟩,.string ⟨#[]⟩,.int .i64 0,.slice none 0 0,.int .i64 0,.int .i64 0,.int .i64 0,.int .i64 0,.int .i64 0,.int .i64 0,.slice none 0 0,.int .i64 0,.int .i64 0,.int .i64 0,.int .i64 0]).cells k).toList.length=k*17:=fun k=>by simp[Builtin.zeroCells,Value.cells]
 have hZ1:∀k,∀v∈(Builtin.zeroCells (Value.agg #[.int .i64 0,.int .i64 0,.string ⟨#[]⟩,.string ⟨#[]⟩,.int .i64 0,.slice none 0 0,.int .i64 0,.int .i64 0,.int .i64 0,.int .i64 0,.int .i64 0,.int .i64 0,.slice none 0 0,.int .i64 0,.int .i64 0,.int .i64 0,.int .i64 0]).cells k).toList,v.oneCell'=true:=fun k v hv=>zero_one (by decide) hv
 have hcl2:∀ty,(Builtin.clear_ #[35] ty #[.slice (some ⟨b,off+(i+(n-j))*17,none⟩) (n-(i+(n-j))) (c-(i+(n-j)))]).run Tryz.prog W1=.ok (.tuple #[]) (W1.setCells b (off+(i+(n-j))*17) (Builtin.zeroCells (Value.agg #[.int .i64 0,.int .i64 0,.string ⟨#[]⟩,.string ⟨#[]⟩,.int .i64 0,.slice none 0 0,.int .i64 0,.int .i64 0,.int .i64 0,.int .i64 0,.int .i64 0,.int .i64 0,.slice none 0 0,.int .i64 0,.int .i64 0,.int .i64 0,.int .i64 0]).cells (n-(i+(n-j)))).toList):=fun ty=>
  run_clear_k W1 35 93 ty _ t24 hv9 b _ _ _ (by omega) (hZ1 _) (fun k hk=>by
   rw[hZl] at hk;rw[hW1];refine isSome_setK b _ _ _ (fun t ht=>?_) _ ?_
   ·rw[hlen] at ht;rw[Nat.add_assoc];exact hcell _ (by omega)
   ·rw[Nat.add_assoc];exact hcell _ (by omega)) (fun k=>by rw[hW1,World.frozen?_setCells];exact hfz k)
 have hW:Hid (W1=w.drew.setCells b (off+i*17) news):=hW1
 have X:Hid (news=cs.drop (j*17)):=hnews
 have Y1:=hZl (n-(i+(n-j)))
 have Y2:=hZ1 (n-(i+(n-j)))
 obtain⟨ZS,hZS⟩:∃ZS,ZS=(Builtin.zeroCells (Value.agg #[.int .i64 0,.int .i64 0,.string ⟨#[]⟩,.string ⟨#[]⟩,.int .i64 0,.slice none 0 0,.int .i64 0,.int .i64 0,.int .i64 0,.int .i64 0,.int .i64 0,.int .i64 0,.slice none 0 0,.int .i64 0,.int .i64 0,.int .i64 0,.int .i64 0]).cells (n-(i+(n-j)))).toList:=⟨_,rfl⟩
 rw[←hZS] at hcl2 Y1 Y2
 have Y1h:Hid (ZS.length=(n-(i+(n-j)))*17):=Y1
 have Y2h:Hid (∀v∈ZS,v.oneCell'=true):=Y2
 have hic:i≤c:=by omega
 have hjc:j≤c:=by omega
 have heq:¬((i:Int)=(j:Int)):=by omega
 clear hW1 hnews hlen Y1 Y2 hZS hZl hZ1 hcell hcs hcl h1c
 go_enter Tryz.func285,Tryz.ntmps285
 go_wp2_with fail
 go_region_law_o (refine step_append_room rfl (.tmp 22) (.tmp 25) 35 rfl 93 i0 17 t24 hi0 hzs b off i c (by simp[Act.eval,Act.put]) A (n-j) (c-j) news (by (simp[Act.eval,Act.put])<;>simpa using hA) s1.out hsrc.out s2.out (by omega) s3.out ?_;rw[←hW.out])
 go_wp2
 go_ret
 refine⟨by rw[show n-(j-i)=i+(n-j) by omega];rfl,w.drew.drawn,ZS,?_,Y2h.out,?_⟩
 ·rw[Y1h.out];congr 1;omega
 ·rw[←X.out,show n-(j-i)=i+(n-j) by omega]
  have:({w with drawn:=w.drew.drawn}:World)=w.drew:=rfl
  rw[this,←hW.out]
theorem delC285:DelC Tryz.prog 285 17 where
 ent:=⟨Tryz.f285,Tryz.func285,by kernel_rfl,by kernel_rfl⟩
 pos:=by decide
 nothing:=fun base n c i w h1 h2 h3=>del285_none base n c i w h1 h2 h3
 cut:=fun b off n c i j cs w h1 h2 h3 h4 h5 h6 h7 h8=>del285_cut b off n c i j cs w h1 h2 h3 h4 h5 h6 h7 h8
def insB300:=And.intro Tryz.underlying96 (And.intro Tryz.underlying90 (And.intro Tryz.isAgg96 (And.intro Tryz.isAgg90 (And.intro Tryz.sizeOf96 (And.intro Tryz.sizeOf90 (And.intro Tryz.zeroValue90 ((run_underlying Tryz.underlying90))))))))
set_option maxRecDepth 100000 in
theorem ins300_shift (b off n c i vb voff m vc:Nat) (cs vs:List Value) (w:World) (hi:i<n) (hm:0<m) (hroom:n+m≤c) (hlim:n+m≤1073741824) (hvb:vb≠b)
  (hcl:cs.length=n*2) (hvl:vs.length=m*2)
  (hcs:∀j v,cs[j]?=some v→w.cell? ⟨b,off+j,none⟩=some v) (hsp:∀j,j<(n+m)*2→(w.cell? ⟨b,off+j,none⟩).isSome=true) (hfz:∀j,w.frozen? ⟨b,j,none⟩=false)
  (hvs:∀j v,vs[j]?=some v→w.cell? ⟨vb,voff+j,none⟩=some v) (h1c:∀v∈cs,v.oneCell'=true) (h1v:∀v∈vs,v.oneCell'=true)
  (tA tB:TypeId) (kA kB:Nat) (hsa:w.shape? vb=some (tA,kA)) (hsb:w.shape? b=some (tB,kB)) (hkA:kA≠0) :
  Calls Tryz.prog 300 #[.slice (some ⟨b,off,none⟩) n c,.int .i64 i,.slice (some ⟨vb,voff,none⟩) m vc] w fun e w'=>
   e=.returned (.slice (some ⟨b,off,none⟩) (n+m) c)∧w'=(w.drew.setCells b (off+(i+m)*2) (cs.drop (i*2))).setCells b (off+i*2) vs:=by
 obtain⟨t0,t3,t4,a0,a3,a4,z0,z3,z4,v0,v3,v4,u0,u3,u4⟩:=insB
 obtain⟨t9,t24,a9,a24,z9,z24,v24,u24⟩:=insB300
 have hz1:¬((m:Int)=0):=by omega
 have hz2:¬((i:Int)=(n:Int)):=by omega
 have hsz:(Tryz.prog.info? 96).map (·.size)=some 2:=by kernel_rfl
 have hov:∀lb cb,(callFunc 316 #[.slice (some ⟨vb,voff,none⟩) m vc,.slice (some ⟨b,off+(i+m)*2,none⟩) lb cb]).run Tryz.prog w=.ok (.value (.bool false)) w:=fun lb cb=>by
  rw[run_callFunc_extern Tryz.func316 (by kernel_rfl) (by kernel_rfl) (by kernel_rfl) (e:=Extern.SlicesOverlaps.overlaps #[90,90] #[4]) (by kernel_rfl),
   run_overlaps_k w 90 4 96 t24 2 z9 ⟨vb,voff,none⟩ ⟨b,off+(i+m)*2,none⟩ m vc lb cb hvb tA tB kA kB hsa hsb hkA (hfz _) (hfz _)]
  rfl
 have mixed:Tryz.prog.follows .mixedOrders=true:=by kernel_rfl
 have hw1:IntKind.i64.wrap ((i:Int)+(m:Int))=(i:Int)+(m:Int):=by rw[IntKind.wrap_i64];omega
 have hb1:(0:Int)≤(i:Int)+(m:Int):=by omega
 have hin:i≤n:=by omega
 have htn:((i:Int)+(m:Int)).toNat=i+m:=by omega
 have hb2:¬(c=i+m):=by omega
 have hb3:(i:Int)≤(n:Int)+(m:Int):=by omega
 have hb4:¬(c=i):=by omega
 obtain⟨W1,hW1,hcp1,hcp2⟩:=ins_p1 t24 hsz b off n c i vb voff m vc cs vs w hi hm hvb hcl hvl hcs hsp hfz hvs h1c h1v
 go_enter Tryz.func300,Tryz.ntmps300
 go_wp2_with (simp only[hov])
 go_region_law_o (refine step_copy_k rfl _ _ 90 90 rfl _ _ (by simp[Act.eval,Act.put]) (by simp[Act.eval,Act.put]) (hcp1 _ _ _) ?_)
 go_wp2_with (at_builtin;refine wpList_copy_k _ rfl _ _ 90 90 rfl _ _ rfl rfl (hcp2 _ (fun _=>rfl) (fun _=>rfl) _ _) ?_)
 go_ret
 first|exact⟨rfl,rfl⟩|exact⟨rfl,by rw[hW1]⟩
set_option maxRecDepth 100000 in
theorem ins300_end (base:Option Addr) (n c m vc:Nat) (vb:Option Addr) (w w':World) (q:Value) (hm:0<m) (hnc:n≤c) (hlim:n+m≤1073741824) (hnil:base=none→n=0)
  (hrun:(Builtin.append_ #[90,90] 90 #[.slice base n c,.slice vb m vc]).run Tryz.prog w=.ok q w') :
  Calls Tryz.prog 300 #[.slice base n c,.int .i64 n,.slice vb m vc] w fun e w1=>e=.returned q∧w1=w':=by
 obtain⟨t0,t3,t4,a0,a3,a4,z0,z3,z4,v0,v3,v4,u0,u3,u4⟩:=insB
 obtain⟨t9,t24,a9,a24,z9,z24,v24,u24⟩:=insB300
 have mixed:Tryz.prog.follows .mixedOrders=true:=by kernel_rfl
 have hz1:¬((m:Int)=0):=by omega
 go_enter Tryz.func300,Tryz.ntmps300
 cases base with
 |none=>
  have h0:=hnil rfl
  subst h0
  go_wp2_with (at_builtin;refine Lib.wpList_append_run _ rfl _ _ _ _ rfl _ _ rfl rfl _ _ hrun ?_)
  all_goals (go_ret;exact⟨rfl,rfl⟩)
 |some a=>
  obtain⟨ab,ao,asp⟩:=a
  go_wp2_with (at_builtin;refine Lib.wpList_append_run _ rfl _ _ _ _ rfl _ _ rfl rfl _ _ hrun ?_)
  all_goals (go_ret;exact⟨rfl,rfl⟩)
set_option maxRecDepth 100000 in
theorem ins300_none (base:Option Addr) (n c i vc:Nat) (vb:Option Addr) (w:World) (hnc:n≤c) (hi:i≤n) (hnil:base=none→n=0) :
  Calls Tryz.prog 300 #[.slice base n c,.int .i64 i,.slice vb 0 vc] w fun e w1=>e=.returned (.slice base n c)∧w1=w:=by
 obtain⟨t0,t3,t4,a0,a3,a4,z0,z3,z4,v0,v3,v4,u0,u3,u4⟩:=insB
 obtain⟨t9,t24,a9,a24,z9,z24,v24,u24⟩:=insB300
 have mixed:Tryz.prog.follows .mixedOrders=true:=by kernel_rfl
 go_enter Tryz.func300,Tryz.ntmps300
 cases base with
 |none=>
  have h0:=hnil rfl
  subst h0
  have hi0:i=0:=by omega
  subst hi0
  go_wp2
  all_goals (go_ret;exact⟨rfl,rfl⟩)
 |some a=>
  obtain⟨ab,ao,asp⟩:=a
  go_wp2
  all_goals (go_ret;exact⟨rfl,rfl⟩)
set_option maxRecDepth 100000 in
theorem ins300_grow (b off n c i vb voff m vc:Nat) (cs vs:List Value) (w:World) (hi:i<n) (hm:0<m) (hnc:n≤c) (hroom:c<n+m) (hlim:n+m≤1073741824)
  (hcl:cs.length=n*2) (hvl:vs.length=m*2) (hbw:b<w.heap.size) (hvw:vb<w.heap.size)
  (hcs:∀j v,cs[j]?=some v→w.cell? ⟨b,off+j,none⟩=some v)
  (hvs:∀j v,vs[j]?=some v→w.cell? ⟨vb,voff+j,none⟩=some v) (h1c:∀v∈cs,v.oneCell'=true) (h1v:∀v∈vs,v.oneCell'=true) :
  Calls Tryz.prog 300 #[.slice (some ⟨b,off,none⟩) n c,.int .i64 i,.slice (some ⟨vb,voff,none⟩) m vc] w fun e w'=>
   ∃(G:Nat) (ROW:Array Value) (d1:Nat),n+m≤G∧(n+m)*2≤ROW.size∧ROW.size=G*2∧(∀(j:Nat) (v:Value),(cs.take (i*2))[j]?=some v→ROW[j]?=some v)∧e=.returned (.slice (some ⟨w.heap.size,0,none⟩) (n+m) G)∧
   w'=((({w with drawn:=d1}:World).alloc (.cells ROW 96)).setCells w.heap.size (i*2) vs).setCells w.heap.size ((i+m)*2) (cs.drop (i*2)):=by
 obtain⟨t0,t3,t4,a0,a3,a4,z0,z3,z4,v0,v3,v4,u0,u3,u4⟩:=insB
 obtain⟨t9,t24,a9,a24,z9,z24,v24,u24⟩:=insB300
 have mixed:Tryz.prog.follows .mixedOrders=true:=by kernel_rfl
 obtain⟨i0,hi0,hz0,hzs,hzb⟩:∃i0,Tryz.prog.info? 96=some i0∧i0.zero=some (Value.agg #[.string ⟨#[]⟩,.slice none 0 0])∧i0.size=2∧i0.bytes=40:=⟨_,rfl,rfl,rfl,rfl⟩
 have hz1:¬((m:Int)=0):=by omega
 have hz2:¬((i:Int)=(n:Int)):=by omega
 have hz3:(c:Int)<(n:Int)+(m:Int):=by omega
 obtain⟨G,ROW,hGn,hRl,hRs,hRt,hG63,hrz,hcpA,hcpB⟩:=ins_p2 t24 t3 i0 (Value.agg #[.string ⟨#[]⟩,.slice none 0 0]) hi0 hz0 hzs (by decide) (by rw[hzb];decide) (fun k=>by simp[Builtin.zeroCells,Value.cells]) b off n c i vb voff m vc cs vs w hi hm hnc hroom hlim hcl hvl hbw hvw hcs hvs h1c h1v
 have hGi:¬(G=i):=by omega
 have hGim:¬(G=i+m):=by omega
 have hci:¬(c=i):=by omega
 have hE1:∀x,((w.alloc (.cells ROW 96)).drew).cell? x=(w.drew.alloc (.cells ROW 96)).cell? x:=fun x=>rfl
 have hE2:∀x,((w.alloc (.cells ROW 96)).drew).frozen? x=(w.drew.alloc (.cells ROW 96)).frozen? x:=fun x=>rfl
 have hF1:∀x,(((w.alloc (.cells ROW 96)).drew.setCells w.heap.size (i*2) vs).drew).cell? x=((w.drew.alloc (.cells ROW 96)).setCells w.heap.size (i*2) vs).cell? x:=fun x=>rfl
 have hF2:∀x,(((w.alloc (.cells ROW 96)).drew.setCells w.heap.size (i*2) vs).drew).frozen? x=((w.drew.alloc (.cells ROW 96)).setCells w.heap.size (i*2) vs).frozen? x:=fun x=>rfl
 have hw1:IntKind.i64.wrap ((i:Int)+(m:Int))=(i:Int)+(m:Int):=by rw[IntKind.wrap_i64];omega
 have hb1:(0:Int)≤(i:Int)+(m:Int):=by omega
 have hin:i≤n:=by omega
 have htn:((i:Int)+(m:Int)).toNat=i+m:=by omega
 have hb3:(i:Int)≤(n:Int):=by omega
 go_enter Tryz.func300,Tryz.ntmps300
 go_wp2_with (first
  |(at_builtin;refine Lib.wpList_append_run _ rfl _ _ _ _ rfl _ _ rfl rfl _ _ (hrz _) ?_)
  |(at_builtin;refine wpList_copy_k _ rfl _ _ 90 90 rfl _ _ rfl rfl (hcpA _ hE1 hE2 _ _) ?_)
  |(at_builtin;refine wpList_copy_k _ rfl _ _ 90 90 rfl _ _ rfl rfl (hcpB _ (fun _=>rfl) (fun _=>rfl) _ _ _) ?_))
 go_region_law_o (refine step_copy_k rfl _ _ 90 90 rfl (.slice (some ⟨w.heap.size,(i+m)*2,none⟩) (n+m-(i+m)) (G-(i+m))) (.slice (some ⟨b,off+i*2,none⟩) (n-i) (c-i)) (by simp[Act.eval,Act.put]) (by simp[Act.eval,Act.put]) (hcpB _ hF1 hF2 3 (G-(i+m)) (c-i)) ?_)
 go_wp2
 go_ret
 exact⟨G,ROW,w.drew.drew.drawn,hGn,hRl,hRs,hRt,rfl,by first|rfl|(rw[drew_setK];rfl)|(simp only[drew_setK];rfl)⟩
theorem insC300:InsC Tryz.prog 300 2 90 96 where
 ent:=⟨Tryz.f300,Tryz.func300,by kernel_rfl,by kernel_rfl⟩
 hS:=Tryz.underlying90
 hz:=by kernel_rfl
 pos:=by decide
 info:=⟨_,(Value.agg #[.string ⟨#[]⟩,.slice none 0 0]),rfl,by decide,rfl,rfl⟩
 nothing:=fun base n c i vc vb w h1 h2 h3=>ins300_none base n c i vc vb w h1 h2 h3
 end_:=fun base n c m vc vb w w' q h1 h2 h3 h4 h5=>ins300_end base n c m vc vb w w' q h1 h2 h3 h4 h5
 shift:=fun b off n c i vb voff m vc cs vs w h1 h2 h3 h4 h5 h6 h7 h8 h9 h10 h11 h12 h13 tA tB kA kB h14 h15 h16=>ins300_shift b off n c i vb voff m vc cs vs w h1 h2 h3 h4 h5 h6 h7 h8 h9 h10 h11 h12 h13 tA tB kA kB h14 h15 h16
 grow:=fun b off n c i vb voff m vc cs vs w h1 h2 h3 h4 h5 h6 h7 h8 h9 h10 h11 h12 h13=>ins300_grow b off n c i vb voff m vc cs vs w h1 h2 h3 h4 h5 h6 h7 h8 h9 h10 h11 h12 h13
def insB302:=And.intro Tryz.underlying186 (And.intro Tryz.underlying91 (And.intro Tryz.isAgg186 (And.intro Tryz.isAgg91 (And.intro Tryz.sizeOf186 (And.intro Tryz.sizeOf91 (And.intro Tryz.zeroValue91 ((run_underlying Tryz.underlying91))))))))
set_option maxRecDepth 100000 in
theorem ins302_shift (b off n c i vb voff m vc:Nat) (cs vs:List Value) (w:World) (hi:i<n) (hm:0<m) (hroom:n+m≤c) (hlim:n+m≤1073741824) (hvb:vb≠b)
  (hcl:cs.length=n*11) (hvl:vs.length=m*11)
  (hcs:∀j v,cs[j]?=some v→w.cell? ⟨b,off+j,none⟩=some v) (hsp:∀j,j<(n+m)*11→(w.cell? ⟨b,off+j,none⟩).isSome=true) (hfz:∀j,w.frozen? ⟨b,j,none⟩=false)
  (hvs:∀j v,vs[j]?=some v→w.cell? ⟨vb,voff+j,none⟩=some v) (h1c:∀v∈cs,v.oneCell'=true) (h1v:∀v∈vs,v.oneCell'=true)
  (tA tB:TypeId) (kA kB:Nat) (hsa:w.shape? vb=some (tA,kA)) (hsb:w.shape? b=some (tB,kB)) (hkA:kA≠0) :
  Calls Tryz.prog 302 #[.slice (some ⟨b,off,none⟩) n c,.int .i64 i,.slice (some ⟨vb,voff,none⟩) m vc] w fun e w'=>
   e=.returned (.slice (some ⟨b,off,none⟩) (n+m) c)∧w'=(w.drew.setCells b (off+(i+m)*11) (cs.drop (i*11))).setCells b (off+i*11) vs:=by
 obtain⟨t0,t3,t4,a0,a3,a4,z0,z3,z4,v0,v3,v4,u0,u3,u4⟩:=insB
 obtain⟨t9,t24,a9,a24,z9,z24,v24,u24⟩:=insB302
 have hz1:¬((m:Int)=0):=by omega
 have hz2:¬((i:Int)=(n:Int)):=by omega
 have hsz:(Tryz.prog.info? 186).map (·.size)=some 11:=by kernel_rfl
 have hov:∀lb cb,(callFunc 318 #[.slice (some ⟨vb,voff,none⟩) m vc,.slice (some ⟨b,off+(i+m)*11,none⟩) lb cb]).run Tryz.prog w=.ok (.value (.bool false)) w:=fun lb cb=>by
  rw[run_callFunc_extern Tryz.func318 (by kernel_rfl) (by kernel_rfl) (by kernel_rfl) (e:=Extern.SlicesOverlaps.overlaps #[91,91] #[4]) (by kernel_rfl),
   run_overlaps_k w 91 4 186 t24 11 z9 ⟨vb,voff,none⟩ ⟨b,off+(i+m)*11,none⟩ m vc lb cb hvb tA tB kA kB hsa hsb hkA (hfz _) (hfz _)]
  rfl
 have mixed:Tryz.prog.follows .mixedOrders=true:=by kernel_rfl
 have hw1:IntKind.i64.wrap ((i:Int)+(m:Int))=(i:Int)+(m:Int):=by rw[IntKind.wrap_i64];omega
 have hb1:(0:Int)≤(i:Int)+(m:Int):=by omega
 have hin:i≤n:=by omega
 have htn:((i:Int)+(m:Int)).toNat=i+m:=by omega
 have hb2:¬(c=i+m):=by omega
 have hb3:(i:Int)≤(n:Int)+(m:Int):=by omega
 have hb4:¬(c=i):=by omega
 obtain⟨W1,hW1,hcp1,hcp2⟩:=ins_p1 t24 hsz b off n c i vb voff m vc cs vs w hi hm hvb hcl hvl hcs hsp hfz hvs h1c h1v
 go_enter Tryz.func302,Tryz.ntmps302
 go_wp2_with (simp only[hov])
 go_region_law_o (refine step_copy_k rfl _ _ 91 91 rfl _ _ (by simp[Act.eval,Act.put]) (by simp[Act.eval,Act.put]) (hcp1 _ _ _) ?_)
 go_wp2_with (at_builtin;refine wpList_copy_k _ rfl _ _ 91 91 rfl _ _ rfl rfl (hcp2 _ (fun _=>rfl) (fun _=>rfl) _ _) ?_)
 go_ret
 first|exact⟨rfl,rfl⟩|exact⟨rfl,by rw[hW1]⟩
set_option maxRecDepth 100000 in
theorem ins302_end (base:Option Addr) (n c m vc:Nat) (vb:Option Addr) (w w':World) (q:Value) (hm:0<m) (hnc:n≤c) (hlim:n+m≤1073741824) (hnil:base=none→n=0)
  (hrun:(Builtin.append_ #[91,91] 91 #[.slice base n c,.slice vb m vc]).run Tryz.prog w=.ok q w') :
  Calls Tryz.prog 302 #[.slice base n c,.int .i64 n,.slice vb m vc] w fun e w1=>e=.returned q∧w1=w':=by
 obtain⟨t0,t3,t4,a0,a3,a4,z0,z3,z4,v0,v3,v4,u0,u3,u4⟩:=insB
 obtain⟨t9,t24,a9,a24,z9,z24,v24,u24⟩:=insB302
 have mixed:Tryz.prog.follows .mixedOrders=true:=by kernel_rfl
 have hz1:¬((m:Int)=0):=by omega
 go_enter Tryz.func302,Tryz.ntmps302
 cases base with
 |none=>
  have h0:=hnil rfl
  subst h0
  go_wp2_with (at_builtin;refine Lib.wpList_append_run _ rfl _ _ _ _ rfl _ _ rfl rfl _ _ hrun ?_)
  all_goals (go_ret;exact⟨rfl,rfl⟩)
 |some a=>
  obtain⟨ab,ao,asp⟩:=a
  go_wp2_with (at_builtin;refine Lib.wpList_append_run _ rfl _ _ _ _ rfl _ _ rfl rfl _ _ hrun ?_)
  all_goals (go_ret;exact⟨rfl,rfl⟩)
set_option maxRecDepth 100000 in
theorem ins302_none (base:Option Addr) (n c i vc:Nat) (vb:Option Addr) (w:World) (hnc:n≤c) (hi:i≤n) (hnil:base=none→n=0) :
  Calls Tryz.prog 302 #[.slice base n c,.int .i64 i,.slice vb 0 vc] w fun e w1=>e=.returned (.slice base n c)∧w1=w:=by
 obtain⟨t0,t3,t4,a0,a3,a4,z0,z3,z4,v0,v3,v4,u0,u3,u4⟩:=insB
 obtain⟨t9,t24,a9,a24,z9,z24,v24,u24⟩:=insB302
 have mixed:Tryz.prog.follows .mixedOrders=true:=by kernel_rfl
 go_enter Tryz.func302,Tryz.ntmps302
 cases base with
 |none=>
  have h0:=hnil rfl
  subst h0
  have hi0:i=0:=by omega
  subst hi0
  go_wp2
  all_goals (go_ret;exact⟨rfl,rfl⟩)
 |some a=>
  obtain⟨ab,ao,asp⟩:=a
  go_wp2
  all_goals (go_ret;exact⟨rfl,rfl⟩)
set_option maxRecDepth 100000 in
theorem ins302_grow (b off n c i vb voff m vc:Nat) (cs vs:List Value) (w:World) (hi:i<n) (hm:0<m) (hnc:n≤c) (hroom:c<n+m) (hlim:n+m≤1073741824)
  (hcl:cs.length=n*11) (hvl:vs.length=m*11) (hbw:b<w.heap.size) (hvw:vb<w.heap.size)
  (hcs:∀j v,cs[j]?=some v→w.cell? ⟨b,off+j,none⟩=some v)
  (hvs:∀j v,vs[j]?=some v→w.cell? ⟨vb,voff+j,none⟩=some v) (h1c:∀v∈cs,v.oneCell'=true) (h1v:∀v∈vs,v.oneCell'=true) :
  Calls Tryz.prog 302 #[.slice (some ⟨b,off,none⟩) n c,.int .i64 i,.slice (some ⟨vb,voff,none⟩) m vc] w fun e w'=>
   ∃(G:Nat) (ROW:Array Value) (d1:Nat),n+m≤G∧(n+m)*11≤ROW.size∧ROW.size=G*11∧(∀(j:Nat) (v:Value),(cs.take (i*11))[j]?=some v→ROW[j]?=some v)∧e=.returned (.slice (some ⟨w.heap.size,0,none⟩) (n+m) G)∧
   w'=((({w with drawn:=d1}:World).alloc (.cells ROW 186)).setCells w.heap.size (i*11) vs).setCells w.heap.size ((i+m)*11) (cs.drop (i*11)):=by
 obtain⟨t0,t3,t4,a0,a3,a4,z0,z3,z4,v0,v3,v4,u0,u3,u4⟩:=insB
 obtain⟨t9,t24,a9,a24,z9,z24,v24,u24⟩:=insB302
 have mixed:Tryz.prog.follows .mixedOrders=true:=by kernel_rfl
 obtain⟨i0,hi0,hz0,hzs,hzb⟩:∃i0,Tryz.prog.info? 186=some i0∧i0.zero=some (Value.agg #[.int .i64 0,.int .i64 0,.int .i64 0,.int .i64 0,.int .i64 0,.int .i64 0,.bool false,.string ⟨#[]⟩,.slice none 0 0,.string ⟨#[]⟩,.bool false])∧i0.size=11∧i0.bytes=120:=⟨_,rfl,rfl,rfl,rfl⟩
 have hz1:¬((m:Int)=0):=by omega
 have hz2:¬((i:Int)=(n:Int)):=by omega
 have hz3:(c:Int)<(n:Int)+(m:Int):=by omega
 obtain⟨G,ROW,hGn,hRl,hRs,hRt,hG63,hrz,hcpA,hcpB⟩:=ins_p2 t24 t3 i0 (Value.agg #[.int .i64 0,.int .i64 0,.int .i64 0,.int .i64 0,.int .i64 0,.int .i64 0,.bool false,.string ⟨#[]⟩,.slice none 0 0,.string ⟨#[]⟩,.bool false]) hi0 hz0 hzs (by decide) (by rw[hzb];decide) (fun k=>by simp[Builtin.zeroCells,Value.cells]) b off n c i vb voff m vc cs vs w hi hm hnc hroom hlim hcl hvl hbw hvw hcs hvs h1c h1v
 have hGi:¬(G=i):=by omega
 have hGim:¬(G=i+m):=by omega
 have hci:¬(c=i):=by omega
 have hE1:∀x,((w.alloc (.cells ROW 186)).drew).cell? x=(w.drew.alloc (.cells ROW 186)).cell? x:=fun x=>rfl
 have hE2:∀x,((w.alloc (.cells ROW 186)).drew).frozen? x=(w.drew.alloc (.cells ROW 186)).frozen? x:=fun x=>rfl
 have hF1:∀x,(((w.alloc (.cells ROW 186)).drew.setCells w.heap.size (i*11) vs).drew).cell? x=((w.drew.alloc (.cells ROW 186)).setCells w.heap.size (i*11) vs).cell? x:=fun x=>rfl
 have hF2:∀x,(((w.alloc (.cells ROW 186)).drew.setCells w.heap.size (i*11) vs).drew).frozen? x=((w.drew.alloc (.cells ROW 186)).setCells w.heap.size (i*11) vs).frozen? x:=fun x=>rfl
 have hw1:IntKind.i64.wrap ((i:Int)+(m:Int))=(i:Int)+(m:Int):=by rw[IntKind.wrap_i64];omega
 have hb1:(0:Int)≤(i:Int)+(m:Int):=by omega
 have hin:i≤n:=by omega
 have htn:((i:Int)+(m:Int)).toNat=i+m:=by omega
 have hb3:(i:Int)≤(n:Int):=by omega
 go_enter Tryz.func302,Tryz.ntmps302
 go_wp2_with (first
  |(at_builtin;refine Lib.wpList_append_run _ rfl _ _ _ _ rfl _ _ rfl rfl _ _ (hrz _) ?_)
  |(at_builtin;refine wpList_copy_k _ rfl _ _ 91 91 rfl _ _ rfl rfl (hcpA _ hE1 hE2 _ _) ?_)
  |(at_builtin;refine wpList_copy_k _ rfl _ _ 91 91 rfl _ _ rfl rfl (hcpB _ (fun _=>rfl) (fun _=>rfl) _ _ _) ?_))
 go_region_law_o (refine step_copy_k rfl _ _ 91 91 rfl (.slice (some ⟨w.heap.size,(i+m)*11,none⟩) (n+m-(i+m)) (G-(i+m))) (.slice (some ⟨b,off+i*11,none⟩) (n-i) (c-i)) (by simp[Act.eval,Act.put]) (by simp[Act.eval,Act.put]) (hcpB _ hF1 hF2 3 (G-(i+m)) (c-i)) ?_)
 go_wp2
 go_ret
 exact⟨G,ROW,w.drew.drew.drawn,hGn,hRl,hRs,hRt,rfl,by first|rfl|(rw[drew_setK];rfl)|(simp only[drew_setK];rfl)⟩
theorem insC302:InsC Tryz.prog 302 11 91 186 where
 ent:=⟨Tryz.f302,Tryz.func302,by kernel_rfl,by kernel_rfl⟩
 hS:=Tryz.underlying91
 hz:=by kernel_rfl
 pos:=by decide
 info:=⟨_,(Value.agg #[.int .i64 0,.int .i64 0,.int .i64 0,.int .i64 0,.int .i64 0,.int .i64 0,.bool false,.string ⟨#[]⟩,.slice none 0 0,.string ⟨#[]⟩,.bool false]),rfl,by decide,rfl,rfl⟩
 nothing:=fun base n c i vc vb w h1 h2 h3=>ins302_none base n c i vc vb w h1 h2 h3
 end_:=fun base n c m vc vb w w' q h1 h2 h3 h4 h5=>ins302_end base n c m vc vb w w' q h1 h2 h3 h4 h5
 shift:=fun b off n c i vb voff m vc cs vs w h1 h2 h3 h4 h5 h6 h7 h8 h9 h10 h11 h12 h13 tA tB kA kB h14 h15 h16=>ins302_shift b off n c i vb voff m vc cs vs w h1 h2 h3 h4 h5 h6 h7 h8 h9 h10 h11 h12 h13 tA tB kA kB h14 h15 h16
 grow:=fun b off n c i vb voff m vc cs vs w h1 h2 h3 h4 h5 h6 h7 h8 h9 h10 h11 h12 h13=>ins302_grow b off n c i vb voff m vc cs vs w h1 h2 h3 h4 h5 h6 h7 h8 h9 h10 h11 h12 h13
end Sg
namespace Sg
open _root_.Go (IntKind BinOp UnOp)
variable {Pg:PgT}
theorem Yj {i n:Nat} (h:decide ((i:Int)<(n:Int))=true):i<n:=by simpa using h
theorem YE {i n:Nat} (hi:i≤n) (h:decide ((i:Int)<(n:Int))=false):i=n:=by
 have:¬i<n:=by simpa using h
 omega
theorem Yn {i n:Nat} (h:i<n) (hn:n<2 ^ 60):IntKind.i64.wrap ((i:Int)+1)=((i+1:Nat):Int):=JiG (by omega) (by omega)
theorem Yep {n:Nat} (h:0<n) (hn:n<2 ^ 60):IntKind.i64.wrap ((n:Int)-1)=((n-1:Nat):Int):=by rw[JiG (by omega) (by omega)];omega
theorem Y4 {α:Type} {l:List α} {i:Nat} {x:α} (h:l[i]?=some x):l.take (i+1)=l.take i++[x]:=by rw[G8,h];rfl
theorem YbU {α:Type} {l:List α} {i:Nat} (h:i=l.length):l.take i=l:=by rw[h,GM]
theorem Yip {n:Nat}:decide ((0:Int)<(n:Int))=!decide (n=0):=by cases n<;>simp
theorem Yce {n:Nat}:decide ((0:Int)<((n+1:Nat):Int))=true:=by simp
theorem led {a b:Nat}:decide ((a:Int)≤(b:Int))=decide (a≤b):=GZ.2 (by omega)
end Sg
namespace Sg
open _root_.Go
theorem Yjj (n a b c d:Nat):1≤(Lib.decodeN n a b c d).2∧(Lib.decodeN n a b c d).2≤4:=by
 unfold Lib.decodeN
 repeat' split
 all_goals simp
theorem YlB (l:List UInt8):1≤(dN l).2:=(Yjj ..).1
def YeO:Nat→List UInt8→List Int
 |0,_=>[]
 |f+1,l=>if l=[] then [] else ((dN l).1:Int)::YeO f (l.drop (dN l).2)
def Yq (l:List UInt8):List Int:=YeO l.length l
theorem YcJ {l:List UInt8} (h:l≠[]):(l.drop (dN l).2).length<l.length:=by
 have:=YlB l;have:0<l.length:=Gaq.2 h;rw[GL];omega
theorem Yf3:∀(f:Nat) (l:List UInt8),l.length≤f→YeO f l=Yq l
 |0,l,h=>by
  obtain rfl:l=[]:=GH (by omega)
  rfl
 |f+1,l,h=>by
  by_cases hl:l=[]
  ·subst hl;simp[YeO,Yq]
  ·have hd:=YcJ hl;have h1:=Yf3 f (l.drop (dN l).2) (by omega);obtain⟨n,hn⟩:∃n,l.length=n+1:=⟨l.length-1,by omega⟩;have h2:YeO n (l.drop (dN l).2)=Yq (l.drop (dN l).2):=Yf3 n _ (by omega);have e:Yq l=((dN l).1:Int)::YeO n (l.drop (dN l).2):=by
    rw[Yq,hn];simp only[YeO,hl,Gu]
   rw[e,h2];simp only[YeO,hl,Gu,h1]
 termination_by f=>f
theorem Ycc:Yq []=[]:=rfl
theorem Ya6 {l:List UInt8} (h:l≠[]):Yq l=((dN l).1:Int)::Yq (l.drop (dN l).2):=by
 have hd:=YcJ h;obtain⟨n,hn⟩:∃n,l.length=n+1:=⟨l.length-1,by omega⟩;rw[Yq,hn];simp only[YeO,h,Gu];rw[Yf3 n _ (by omega)]
theorem Yf4:∀(n:Nat) (l:List UInt8),l.length≤n→(Yq l).length≤l.length
 |0,l,h=>by
  obtain rfl:l=[]:=GH (by omega);simp[Ycc]
 |n+1,l,h=>by
  by_cases hl:l=[]
  ·subst hl;simp[Ycc]
  ·have hd:=YcJ hl;have:=Yf4 n (l.drop (dN l).2) (by omega);rw[Ya6 hl];simp only[List.length_cons];omega
theorem Ye6:∀(f:Nat) (l:List UInt8),l.length≤f→keyAll f l=keyAll l.length l
 |0,l,h=>by
  obtain rfl:l=[]:=GH (by omega)
  rfl
 |f+1,l,h=>by
  by_cases hl:l=[]
  ·subst hl;simp[keyAll]
  ·have hd:=YcJ hl;have h1:=Ye6 f (l.drop (dN l).2) (by omega);obtain⟨n,hn⟩:∃n,l.length=n+1:=⟨l.length-1,by omega⟩;have h2:=Ye6 n (l.drop (dN l).2) (by omega);have e:keyAll l.length l=(plainR (dN l).1 (dN l).2&&keyAll n (l.drop (dN l).2)):=by
    rw[hn];simp only[keyAll,hl,Gu]
   rw[e,h2];simp only[keyAll,hl,Gu,h1]
 termination_by f=>f
theorem Yig {f:Nat}:keyAll f []=true:=by cases f<;>simp[keyAll]
theorem Yd0 {l:List UInt8} (h:l≠[]):keyAll l.length l=(plainR (dN l).1 (dN l).2&&keyAll (l.drop (dN l).2).length (l.drop (dN l).2)):=by
 have hd:=YcJ h;obtain⟨n,hn⟩:∃n,l.length=n+1:=⟨l.length-1,by omega⟩;rw[hn];simp only[keyAll,h,Gu];rw[Ye6 n _ (by omega)]
def Ya7:Int→List UInt8→Option Int
 |a,[]=>some a
 |a,b::l=>if b.toNat<128∨191<b.toNat then none else Ya7 (64*a+b.toNat-128) l
def cls (a:Int):Nat×Int×Int:=
 if 194≤a∧a<224 then (2,128,a-192) else if 224≤a∧a<240 then (3,2048,a-224) else if 240≤a∧a<245 then (4,65536,a-240) else (0,0,a)
def Ydf (l:List UInt8):Int×Int:=
 match l with
 |[]=>(-1,1)
 |b::t=>if b.toNat<128 then ((b.toNat:Int),1) else
  if (cls b.toNat).1=0∨l.length<(cls b.toNat).1 then (-1,1) else
   match Ya7 (cls b.toNat).2.2 (t.take ((cls b.toNat).1-1)) with
   |none=>(-1,1)
   |some v=>if v<(cls b.toNat).2.1∨1114111<v∨(55296≤v∧v<57344) then (-1,1) else (v,(cls b.toNat).1)
theorem Ymj {n a b c d:Nat} (h:(128≤a∧a<194)∨(245≤a∧a<256)):Lib.decodeN n a b c d=(65533,1):=by
 unfold Lib.decodeN
 repeat' split
 all_goals first|(exfalso;omega)|rfl
theorem YkF {n a b c d:Nat} (h:194≤a∧a<224):Lib.decodeN n a b c d=if 1<n∧b / 64=2 then (a % 32*64+b % 64,2) else (65533,1):=by
 unfold Lib.decodeN
 repeat' split
 all_goals first|(exfalso;omega)|rfl
theorem YkG {n a b c d:Nat} (h:224≤a∧a<240):Lib.decodeN n a b c d=if (1<n∧b / 64=2)∧(2<n∧c / 64=2)∧2048≤a % 16*4096+b % 64*64+c % 64∧(a % 16*4096+b % 64*64+c % 64<55296∨57344≤a % 16*4096+b % 64*64+c % 64) then (a % 16*4096+b % 64*64+c % 64,3) else (65533,1):=by
 unfold Lib.decodeN
 repeat' split
 all_goals first|(exfalso;omega)|rfl
theorem YjN {n a b c d:Nat} (h:240≤a∧a<245):Lib.decodeN n a b c d=if (1<n∧b / 64=2)∧(2<n∧c / 64=2)∧(3<n∧d / 64=2)∧65536≤a % 8*262144+b % 64*4096+c % 64*64+d % 64∧a % 8*262144+b % 64*4096+c % 64*64+d % 64≤1114111 then (a % 8*262144+b % 64*4096+c % 64*64+d % 64,4) else (65533,1):=by
 unfold Lib.decodeN
 repeat' split
 all_goals first|(exfalso;omega)|rfl
theorem Ymk {n a b c d:Nat} (h:a<128):Lib.decodeN n a b c d=(a,1):=by
 unfold Lib.decodeN;rw[Gr h]
theorem YfG {b:UInt8}:(b.toNat<128∨191<b.toNat)↔¬b.toNat / 64=2:=by omega
theorem Yfv {l:List UInt8} (h:l≠[]):Ydf l=if dN l=(65533,1) then (-1,1) else (((dN l).1:Int),((dN l).2:Int)):=by
 obtain⟨b0,t,rfl⟩:=List.exists_cons_of_ne_nil h;have l0:=b0.toNat_lt;have e0:(b0::t).getD 0 0=b0:=rfl;have e1:(b0::t).getD 1 0=t.getD 0 0:=rfl;have e2:(b0::t).getD 2 0=t.getD 1 0:=rfl;have e3:(b0::t).getD 3 0=t.getD 2 0:=rfl;simp only[Ydf,dN,e0,e1,e2,e3,List.length_cons];by_cases c1:b0.toNat<128
 ·rw[Gr c1,Ymk c1,Gn (by intro e;simp at e;omega)];rfl
 rw[Gn c1];by_cases c2:194≤b0.toNat∧b0.toNat<224
 ·rw[YkF c2,show cls b0.toNat=(2,128,(b0.toNat:Int)-192) from Gr (by omega)]
  match t with
  |[]=>simp
  |b1::t=>
   have l1:=b1.toNat_lt;simp only[GaL,List.length_cons,List.take_succ_cons,List.take_zero,Ya7,YfG];by_cases d1:b1.toNat / 64=2
   ·have e:(1<t.length+1+1∧b1.toNat / 64=2):=⟨by omega,d1⟩;simp only[d1,e];simp
    repeat' split
    all_goals first|(exfalso;omega)|(simp;omega)|omega
   ·simp[d1]
 by_cases c3:224≤b0.toNat∧b0.toNat<240
 ·rw[YkG c3,show cls b0.toNat=(3,2048,(b0.toNat:Int)-224) from by rw[cls,Gn (by omega),Gr (by omega)]]
  match t with
  |[]=>simp
  |[b1]=>simp
  |b1::b2::t=>
   have l1:=b1.toNat_lt;have l2:=b2.toNat_lt;simp only[GaL,List.getD_cons_succ,List.length_cons,List.take_succ_cons,List.take_zero,Ya7,YfG];by_cases d1:b1.toNat / 64=2
   ·by_cases d2:b2.toNat / 64=2
    ·have hv:64*(64*((b0.toNat:Int)-224)+b1.toNat-128)+b2.toNat-128=((b0.toNat % 16*4096+b1.toNat % 64*64+b2.toNat % 64:Nat):Int):=by omega
     have hn:¬(3=0∨t.length+1+1+1<3):=by omega
     simp only[d1,d2,not_true_eq_false,Gu,hv,hn];obtain⟨v,hve,hvb⟩:∃v,b0.toNat % 16*4096+b1.toNat % 64*64+b2.toNat % 64=v∧v<65536:=⟨_,rfl,by omega⟩;rw[hve];by_cases c:2048≤v∧(v<55296∨57344≤v)
     ·have hD:(if (1<t.length+1+1+1∧True)∧(2<t.length+1+1+1∧True)∧2048≤v∧(v<55296∨57344≤v) then (v,3) else ((65533,1):Nat×Nat))=(v,3):=Gr ⟨⟨by omega,Gy⟩,⟨by omega,Gy⟩,c.1,c.2⟩;rw[hD,Gn (by omega),Gn (by intro e;simp at e)]
     ·have hD:(if (1<t.length+1+1+1∧True)∧(2<t.length+1+1+1∧True)∧2048≤v∧(v<55296∨57344≤v) then (v,3) else ((65533,1):Nat×Nat))=(65533,1):=Gn (fun e=>c ⟨e.2.2.1,e.2.2.2⟩);rw[hD,Gr (by omega),Gr rfl]
    ·simp[d1,d2]
   ·simp[d1]
 by_cases c4:240≤b0.toNat∧b0.toNat<245
 ·rw[YjN c4,show cls b0.toNat=(4,65536,(b0.toNat:Int)-240) from by rw[cls,Gn (by omega),Gn (by omega),Gr (by omega)]]
  match t with
  |[]=>simp
  |[b1]=>simp
  |[b1,b2]=>simp
  |b1::b2::b3::t=>
   have l1:=b1.toNat_lt;have l2:=b2.toNat_lt;have l3:=b3.toNat_lt;simp only[GaL,List.getD_cons_succ,List.length_cons,List.take_succ_cons,List.take_zero,Ya7,YfG];by_cases d1:b1.toNat / 64=2
   ·by_cases d2:b2.toNat / 64=2
    ·by_cases d3:b3.toNat / 64=2
     ·have hv:64*(64*(64*((b0.toNat:Int)-240)+b1.toNat-128)+b2.toNat-128)+b3.toNat-128=((b0.toNat % 8*262144+b1.toNat % 64*4096+b2.toNat % 64*64+b3.toNat % 64:Nat):Int):=by omega
      have hn:¬(4=0∨t.length+1+1+1+1<4):=by omega
      simp only[d1,d2,d3,not_true_eq_false,Gu,hv,hn];obtain⟨v,hve⟩:∃v,b0.toNat % 8*262144+b1.toNat % 64*4096+b2.toNat % 64*64+b3.toNat % 64=v:=⟨_,rfl⟩;rw[hve];by_cases c:65536≤v∧v≤1114111
      ·have hD:(if (1<t.length+1+1+1+1∧True)∧(2<t.length+1+1+1+1∧True)∧(3<t.length+1+1+1+1∧True)∧65536≤v∧v≤1114111 then (v,4) else ((65533,1):Nat×Nat))=(v,4):=Gr ⟨⟨by omega,Gy⟩,⟨by omega,Gy⟩,⟨by omega,Gy⟩,c.1,c.2⟩;rw[hD,Gn (by omega),Gn (by intro e;simp at e)]
      ·have hD:(if (1<t.length+1+1+1+1∧True)∧(2<t.length+1+1+1+1∧True)∧(3<t.length+1+1+1+1∧True)∧65536≤v∧v≤1114111 then (v,4) else ((65533,1):Nat×Nat))=(65533,1):=Gn (fun e=>c ⟨e.2.2.2.1,e.2.2.2.2⟩);rw[hD,Gr (by omega),Gr rfl]
     ·simp[d1,d2,d3]
    ·simp[d1,d2]
   ·simp[d1]
 rw[Ymj (by omega),show cls b0.toNat=(0,0,(b0.toNat:Int)) from by rw[cls,Gn (by omega),Gn (by omega),Gn (by omega)]];simp
theorem YeD {l:List UInt8} (h:l≠[]):dN l=(65533,1)∨(∃b0 t,l=b0::t∧b0.toNat<128∧dN l=(b0.toNat,1))∨
  (∃b0 b1 t,l=b0::b1::t∧(194≤b0.toNat∧b0.toNat<224)∧b1.toNat / 64=2∧dN l=(b0.toNat % 32*64+b1.toNat % 64,2))∨
  (∃b0 b1 b2 t,l=b0::b1::b2::t∧(224≤b0.toNat∧b0.toNat<240)∧b1.toNat / 64=2∧b2.toNat / 64=2∧2048≤b0.toNat % 16*4096+b1.toNat % 64*64+b2.toNat % 64∧dN l=(b0.toNat % 16*4096+b1.toNat % 64*64+b2.toNat % 64,3))∨
  (∃b0 b1 b2 b3 t,l=b0::b1::b2::b3::t∧(240≤b0.toNat∧b0.toNat<245)∧b1.toNat / 64=2∧b2.toNat / 64=2∧b3.toNat / 64=2∧65536≤b0.toNat % 8*262144+b1.toNat % 64*4096+b2.toNat % 64*64+b3.toNat % 64∧dN l=(b0.toNat % 8*262144+b1.toNat % 64*4096+b2.toNat % 64*64+b3.toNat % 64,4)):=by
 obtain⟨b0,t,rfl⟩:=List.exists_cons_of_ne_nil h
 have l0:=b0.toNat_lt
 have e0:(b0::t).getD 0 0=b0:=rfl
 have e1:(b0::t).getD 1 0=t.getD 0 0:=rfl
 have e2:(b0::t).getD 2 0=t.getD 1 0:=rfl
 have e3:(b0::t).getD 3 0=t.getD 2 0:=rfl
 by_cases c1:b0.toNat<128
 ·exact .inr (.inl ⟨b0,t,rfl,c1,by rw[dN,e0,Ymk c1]⟩)
 by_cases c2:194≤b0.toNat∧b0.toNat<224
 ·match t with
  |[]=>left;rw[dN,e0,YkF c2];simp
  |b1::t=>
   by_cases d:b1.toNat / 64=2
   ·exact .inr (.inr (.inl ⟨b0,b1,t,rfl,c2,d,by rw[dN,e0,YkF c2,Gr ⟨by simp,by simpa [e1] using d⟩];rfl⟩))
   ·left;rw[dN,e0,YkF c2,Gn (fun e=>d (by simpa [e1] using e.2))]
 by_cases c3:224≤b0.toNat∧b0.toNat<240
 ·match t with
  |[]=>left;rw[dN,e0,YkG c3];simp
  |[b1]=>left;rw[dN,e0,YkG c3];simp
  |b1::b2::t=>
   have g1:(b0::b1::b2::t).getD 1 0=b1:=rfl
   have g2:(b0::b1::b2::t).getD 2 0=b2:=rfl
   rw[dN,e0,g1,g2,YkG c3]
   split
   ·rename_i hc
    exact .inr (.inr (.inr (.inl ⟨b0,b1,b2,t,rfl,c3,hc.1.2,hc.2.1.2,hc.2.2.1,rfl⟩)))
   ·exact .inl rfl
 by_cases c4:240≤b0.toNat∧b0.toNat<245
 ·match t with
  |[]=>left;rw[dN,e0,YjN c4];simp
  |[b1]=>left;rw[dN,e0,YjN c4];simp
  |[b1,b2]=>left;rw[dN,e0,YjN c4];simp
  |b1::b2::b3::t=>
   have g1:(b0::b1::b2::b3::t).getD 1 0=b1:=rfl
   have g2:(b0::b1::b2::b3::t).getD 2 0=b2:=rfl
   have g3:(b0::b1::b2::b3::t).getD 3 0=b3:=rfl
   rw[dN,e0,g1,g2,g3,YjN c4]
   split
   ·rename_i hc
    exact .inr (.inr (.inr (.inr ⟨b0,b1,b2,b3,t,rfl,c4,hc.1.2,hc.2.1.2,hc.2.2.1.2,hc.2.2.2.1,rfl⟩)))
   ·exact .inl rfl
 ·left;rw[dN,e0,Ymj (by omega)]
theorem Yeq {a b:UInt8} (h:a.toNat=b.toNat):a=b:=UInt8.toNat_inj.1 h
theorem YlA {l l':List UInt8} (h:l≠[]) (h':l'≠[]) (n:dN l≠(65533,1)) (n':dN l'≠(65533,1)) (e:(dN l).1=(dN l').1):(dN l).2=(dN l').2∧l.take (dN l).2=l'.take (dN l').2:=by
 rcases YeD h with c|⟨a0,t,rfl,q,c⟩|⟨a0,a1,t,rfl,q,q1,c⟩|⟨a0,a1,a2,t,rfl,q,q1,q2,q3,c⟩|⟨a0,a1,a2,a3,t,rfl,q,q1,q2,q3,q4,c⟩
 ·exact absurd c n
 all_goals
  rcases YeD h' with c'|⟨b0,t',rfl,p,c'⟩|⟨b0,b1,t',rfl,p,p1,c'⟩|⟨b0,b1,b2,t',rfl,p,p1,p2,p3,c'⟩|⟨b0,b1,b2,b3,t',rfl,p,p1,p2,p3,p4,c'⟩
  ·exact absurd c' n'
  all_goals
   rw[c,c'] at e
   simp only at e
   first
    |(exfalso;omega)
    |(rw[c,c'];refine⟨rfl,?_⟩;simp only[List.take_succ_cons,List.take_zero,Gax,and_true])
 ·exact Yeq e
 ·exact⟨Yeq (by omega),Yeq (by omega)⟩
 ·exact⟨Yeq (by omega),Yeq (by omega),Yeq (by omega)⟩
 ·exact⟨Yeq (by omega),Yeq (by omega),Yeq (by omega),Yeq (by omega)⟩
theorem plain_ok {l:List UInt8} (h:plainR (dN l).1 (dN l).2=true):dN l≠(65533,1):=fun e=>by
 rw[e] at h;simp[plainR] at h
theorem lets_inj:∀(n:Nat) (l l':List UInt8),l.length≤n→keyAll l.length l=true→keyAll l'.length l'=true→Yq l=Yq l'→l=l'
 |n,l,l',hn,k,k',e=>by
  by_cases h:l=[]
  ·by_cases h':l'=[]
   ·rw[h,h']
   ·rw[h,Ycc,Ya6 h'] at e;simp at e
  ·by_cases h':l'=[]
   ·rw[h',Ycc,Ya6 h] at e;simp at e
   ·rw[Ya6 h,Ya6 h',Gax] at e;rw[Yd0 h,Gc] at k;rw[Yd0 h',Gc] at k';obtain⟨e1,e2⟩:=YlA h h' (plain_ok k.1) (plain_ok k'.1) (by omega);have hd:=YcJ h;have hl:0<l.length:=Gaq.2 h;have e3:=lets_inj (n-1) _ _ (by omega) k.2 k'.2 e.2;rw[←G4 (dN l).2 l,←G4 (dN l').2 l',e2,e3]
 termination_by n=>n
def YD:List Int→List Int→Int
 |[],[]=>0
 |[],_::_=>-1
 |_::_,[]=>1
 |a::l,b::k=>if a<b then -1 else if b<a then 1 else YD l k
theorem Yhz:∀(a b:List Int),YD a b=-1∨YD a b=0∨YD a b=1
 |[],[]=>by simp[YD]
 |[],_::_=>by simp[YD]
 |_::_,[]=>by simp[YD]
 |a::l,b::k=>by
  simp only[YD];split
  ·simp
  ·split
   ·simp
   ·exact Yhz l k
theorem YbS:∀(a b:List Int),YD b a=- YD a b
 |[],[]=>by simp[YD]
 |[],_::_=>by simp[YD]
 |_::_,[]=>by simp[YD]
 |a::l,b::k=>by
  simp only[YD];have:=YbS l k
  repeat' split
  all_goals omega
theorem Yed:∀(a b:List Int),YD a b=0→a=b
 |[],[],_=>rfl
 |[],_::_,h=>by simp[YD] at h
 |_::_,[],h=>by simp[YD] at h
 |a::l,b::k,h=>by
  simp only[YD] at h;split at h
  ·simp at h
  ·split at h
   ·simp at h
   ·have:=Yed l k h;have:a=b:=by omega
    simp_all
theorem Ybg:∀(a:List Int),YD a a=0
 |[]=>rfl
 |a::l=>by simp[YD,Ybg l]
theorem Ydk {a b:Int} {l k:List Int} (h:a<b):YD (a::l) (b::k)=-1:=by simp[YD,h]
theorem YdT {a b:Int} {l k:List Int} (h:b<a):YD (a::l) (b::k)=1:=by
 have:¬a<b:=by omega
 simp[YD,h,this]
theorem YdS {a:Int} {l k:List Int}:YD (a::l) (a::k)=YD l k:=by simp[YD]
theorem YeC:∀(a b c:List Int),YD a b≤0→YD b c≤0→YD a c≤0∧(YD a b<0∨YD b c<0→YD a c<0)
 |[],[],c,h1,h2=>by
  have:YD [] []=0:=rfl;omega
 |[],_::_,[],h1,h2=>by simp[YD] at h2
 |[],_::_,_::_,h1,h2=>by simp[YD]
 |_::_,[],_,h1,h2=>by simp[YD] at h1
 |a::l,b::k,[],h1,h2=>by simp[YD] at h2
 |a::l,b::k,c::m,h1,h2=>by
  have ih:=YeC l k m;rcases Gar a b with p|p|p
  ·rw[Ydk p] at h1 ⊢;rcases Gar b c with q|q|q
   ·rw[Ydk (show a<c by omega)];omega
   ·rw[Ydk (show a<c by omega)];omega
   ·rw[YdT q] at h2;omega
  ·subst p;rw[YdS] at h1 ⊢;rcases Gar a c with q|q|q
   ·rw[Ydk q];omega
   ·subst q;rw[YdS] at h2 ⊢;rw[YdS];exact ih h1 h2
   ·rw[YdT q] at h2;omega
  ·rw[YdT p] at h1;omega
end Sg
namespace Sg
open _root_.Go (IntKind BinOp UnOp)
variable {Pg:PgT}
@[go_sem] theorem YmS {b:UInt8} {t:List UInt8} {k:IntKind}:Jc5 (.str (b::t)) (.int k 0)=some (.int .u8 b.toNat):=rfl
@[go_sem high] theorem YmR {s:List UInt8} {z:Nat} {k:IntKind} {n:Nat} (h:n≤s.length):slV true z (.str s) (some (.int k (n:Int))) none=some (.str (s.drop n)):=by
 simp[slV,bound,h]
def H191 (Pg:PgT):Prop:=Pg 191=some (.code F191)
theorem K191 (h:H191 Pg) (r n:Int):K' Pg 191 [.int .i32 r,.int .i64 n]=some (.bool (plainR r n)):=by
 refine Qb h rfl ?_;simp only[go_sem];cases c1:decide (33≤r)<;>cases c2:decide (r<127)<;>cases c3:decide (159<r)<;>cases c4:decide (r=65533)<;>cases c5:decide (n=3) <;>
  simp only[go_sem,plainR,c1,c2,c3,c4,c5]
def H190 (Pg:PgT):Prop:=Pg 190=some (.prim none decQ)
theorem K190 (h:H190 Pg) (s:List UInt8):K' Pg 190 [.str s]=some (.tuple [.int .i32 (JcS s).1,.int .i64 (JcS s).2]):=by
 rw[Jip h];rfl
def H170 (Pg:PgT):Prop:=Pg 170=some (.prim none keyQ)
theorem K170 (h:H170 Pg) (s:List UInt8):K' Pg 170 [.str s]=some (.bool (keyR s)):=by
 rw[Jip h];rfl
def Yhl (c:Int):Bool:=decide (32<c)&&(!decide (c=127)&&(decide (c<128)||decide (159<c)))
def H189 (Pg:PgT):Prop:=Pg 189=some (.code F189)
theorem K189 (h:H189 Pg) (c:Int):K' Pg 189 [iz c]=some (.bool (Yhl c)):=by
 refine Qb h rfl ?_;simp only[go_sem];cases c1:decide (32<c)<;>cases c2:decide (c=127)<;>cases c3:decide (c<128)<;>cases c4:decide (159<c) <;>
  simp only[go_sem,Yhl,c1,c2,c3,c4]
theorem Ykd {l:List UInt8} (h:l≠[]):Yhl (Ydf l).1=plainR (dN l).1 (dN l).2:=by
 rw[Yfv h];by_cases c:dN l=(65533,1)
 ·rw[Gr c,c];decide
 ·rw[Gn c];simp only[Yhl,plainR];have c65:(dN l).1=65533→(dN l).2=3:=fun e=>by
   rcases YeD h with x|⟨a0,t,rfl,q,x⟩|⟨a0,a1,t,rfl,q,q1,x⟩|⟨a0,a1,a2,t,rfl,q,q1,q2,q3,x⟩|⟨a0,a1,a2,a3,t,rfl,q,q1,q2,q3,q4,x⟩
   ·exact absurd x c
   all_goals (rw[x] at e ⊢;try (simp only at e ⊢;try omega))
  generalize (dN l).1=r at c65 ⊢;generalize (dN l).2=n at c65 ⊢;rw[Bool.eq_iff_iff];simp only[Gc,G2,Gi,GN,Gq];omega
@[go_sem] def eLN (x:Int×Int):V:=.tuple [iz x.1,iz x.2]
def H188 (Pg:PgT):Prop:=Pg 188=some (.code F188)
theorem YdA:∀{l:List UInt8} {a:Int} {b:UInt8},Ya7 a (l++[b])=(Ya7 a l).bind fun v=>if b.toNat<128∨191<b.toNat then none else some (64*v+b.toNat-128)
 |[],a,b=>by simp[Ya7]
 |c::l,a,b=>by
  simp only[Ya7,List.cons_append];split
  ·rfl
  ·exact YdA
theorem Ydz:∀{l k:List UInt8} {a:Int},Ya7 a l=none→Ya7 a (l++k)=none
 |[],k,a,h=>by simp[Ya7] at h
 |c::l,k,a,h=>by
  simp only[Ya7,List.cons_append] at h ⊢;split
  ·rfl
  ·rename_i hc;rw[Gn hc] at h;exact Ydz h
theorem K188 (h:H188 Pg) (s:List UInt8) (hs:s≠[]):K' Pg 188 [.str s]=some (eLN (Ydf s)):=by
 refine Qb h rfl ?_;obtain⟨b0,t,rfl⟩:=List.exists_cons_of_ne_nil hs;have l0:=b0.toNat_lt;have w8:IntKind.i64.wrap (b0.toNat:Int)=b0.toNat:=JiG (by omega) (by omega);have w192:IntKind.i64.wrap ((b0.toNat:Int)-192)=b0.toNat-192:=JiG (by omega) (by omega);have w224:IntKind.i64.wrap ((b0.toNat:Int)-224)=b0.toNat-224:=JiG (by omega) (by omega);have w240:IntKind.i64.wrap ((b0.toNat:Int)-240)=b0.toNat-240:=JiG (by omega) (by omega);simp only[go_sem,w8];refine JiK (fun c1=>?_) (fun c1=>?_)
 ·have c1:=Gg c1;have e:Ydf (b0::t)=((b0.toNat:Int),(1:Int)):=by simp only[Ydf];rw[Gr (by omega)]
  rw[e];simp only[go_sem]
 have c1:=Gb c1;have eS:Ydf (b0::t)=if (cls b0.toNat).1=0∨(b0::t).length<(cls b0.toNat).1 then (-1,1) else
   match Ya7 (cls b0.toNat).2.2 (t.take ((cls b0.toNat).1-1)) with
   |none=>(-1,1)
   |some v=>if v<(cls b0.toNat).2.1∨1114111<v∨(55296≤v∧v<57344) then (-1,1) else (v,((cls b0.toNat).1:Int)):=by
  simp only[Ydf];rw[Gn (by omega)]<;>rfl
 simp only[go_sem];cases c2:decide (194≤(b0.toNat:Int)) with
 |false=>
  have hcl:cls b0.toNat=(0,0,(b0.toNat:Int)):=by
   have:=Gb c2;rw[cls,Gn (by omega),Gn (by omega),Gn (by omega)]
  have d2:decide (224≤(b0.toNat:Int))=false:=Gp (by have:=Gb c2;omega);have d3:decide (240≤(b0.toNat:Int))=false:=Gp (by have:=Gb c2;omega);rw[hcl,Gr (.inl rfl)] at eS;rw[eS];simp only[go_sem,d2,d3]
 |true=>
 have c2':=Gg c2;simp only[go_sem];refine JiK (fun c3=>?_) (fun c3=>?_)
 ·have c3:=Gg c3;have hcl:cls b0.toNat=(2,128,(b0.toNat:Int)-192):=Gr (by omega);simp only[go_sem,w192];rw[hcl] at eS;simp only at eS;refine JiK (fun c5=>?_) (fun c5=>?_)
  ·have c5:=Gg c5;rw[Gr (.inr (by simp only[List.length_cons];omega))] at eS;rw[eS];simp only[go_sem]
  have c5:=Gb c5;have c5:2≤t.length+1:=by omega
  rw[Gn (by simp only[List.length_cons];omega)] at eS;simp only[go_sem];unfold l188_0;refine JiJ (fun (i:Nat) S=>(1≤i∧i≤2)∧S.ρ 0=.str (b0::t)∧S.ρ 5=iz 2∧S.ρ 6=iz 128∧S.ρ 7=iz i∧∃v,S.ρ 4=iz v∧Ya7 ((b0.toNat:Int)-192) (t.take (i-1))=some v∧0≤v∧v<64 ^ i) (fun i=>2-i) 1 ?_ ?_
  ·simp[go_sem,Ya7];omega
  ·intro i S ⟨hi,h0,h5,h6,h7,v,h4,hv,v0,v1⟩;have v2:v<16777216:=by
    have:i=1∨i=2∨i=3∨i=4:=by omega
    rcases this with rfl|rfl|rfl|rfl<;>simp at v1<;>omega
   simp only[go_sem,h5,h7];refine JiK (fun h=>?_) (fun h=>?_)
   ·have h:i<2:=by have:=Gg h;omega
    obtain⟨b,hb⟩:∃b,(b0::t)[i]?=some b:=⟨_,List.getElem?_eq_getElem (by simp only[List.length_cons];omega)⟩;have hb':t[i-1]?=some b:=by
     obtain⟨k,rfl⟩:∃k,i=k+1:=⟨i-1,by omega⟩;simpa using hb
    have lb:=b.toNat_lt;have hts:t.take (i+1-1)=t.take (i-1)++[b]:=by
     have:=Y4 hb';rwa [show i-1+1=i+1-1 by omega] at this
    have hsn:=YdA (l:=t.take (i-1)) (a:=((b0.toNat:Int)-192)) (b:=b);rw[hv,Option.bind_some,←hts] at hsn;have wb:IntKind.i64.wrap (b.toNat:Int)=b.toNat:=JiG (by omega) (by omega);have w1:IntKind.i64.wrap (64*v)=64*v:=JiG (by omega) (by omega);have w2:IntKind.i64.wrap (64*v+b.toNat)=64*v+b.toNat:=JiG (by omega) (by omega);have w3:IntKind.i64.wrap (64*v+b.toNat-128)=64*v+b.toNat-128:=JiG (by omega) (by omega);have bad:(b.toNat<128∨191<b.toNat)→Ydf (b0::t)=(-1,1):=fun hbad=>by
     rw[Gr hbad] at hsn;have:Ya7 ((b0.toNat:Int)-192) (t.take (2-1))=none:=by
      have e:t.take (2-1)=t.take (i+1-1)++(t.take (2-1)).drop (i+1-1):=by
       have:=G4 (i+1-1) (t.take (2-1));rw[List.take_take,GaB (by omega)] at this;exact this.symm
      rw[e];exact Ydz hsn
     rw[eS,this]
    simp only[go_sem,h0,h7,hb];cases d1:decide ((b.toNat:Int)<128) with
    |true=>
     have:=bad (.inl (by have:=Gg d1;omega));rw[this];simp only[go_sem]
    |false=>
     have d1':=Gb d1;simp only[go_sem,h0,h7,hb];refine JiK (fun d2=>?_) (fun d2=>?_)
     ·have:=bad (.inr (by have:=Gg d2;omega));rw[this];simp only[go_sem]
     ·have d2':=Gb d2;rw[Gn (by omega)] at hsn;simp only[go_sem,h0,h4,h5,h6,h7,hb,wb,w1,w2,w3];refine⟨i+1,by omega,by omega,by rw[Yn h (by omega)],_,rfl,hsn,by omega,?_⟩;rw[Int.pow_succ];omega
   ·have h:i=2:=by have:=Gb h;omega
    subst h;have hv:Ya7 ((b0.toNat:Int)-192) (t.take (2-1))=some v:=hv;rw[hv] at eS;simp only at eS;simp only[go_sem,h4,h6];cases f1:decide (v<128) with
    |true=>
     rw[Gr (.inl (Gg f1))] at eS;rw[eS];simp only[go_sem]
    |false=>
    cases f2:decide (1114111<v) with
    |true=>
     rw[Gr (.inr (.inl (Gg f2)))] at eS;rw[eS];simp only[go_sem,f2,h4]
    |false=>
    have f1':=Gb f1;have f2':=Gb f2;cases f3:decide (55296≤v) with
    |false=>
     rw[Gn (by have:=Gb f3;omega)] at eS;rw[eS];simp only[go_sem,f2,f3,h4,h5]
    |true=>
    cases f4:decide (v<57344) with
    |true=>
     rw[Gr (.inr (.inr ⟨Gg f3,Gg f4⟩))] at eS;rw[eS];simp only[go_sem,f2,f3,f4,h4]
    |false=>
     rw[Gn (by have:=Gb f4;omega)] at eS;rw[eS];simp only[go_sem,f2,f3,f4,h4,h5]
 have c3:=Gb c3;have d2:decide (224≤(b0.toNat:Int))=true:=GD (by omega);simp only[go_sem,d2];refine JiK (fun c4=>?_) (fun c4=>?_)
 ·have c4:=Gg c4;have hcl:cls b0.toNat=(3,2048,(b0.toNat:Int)-224):=by rw[cls,Gn (by omega),Gr (by omega)]
  simp only[go_sem,w224];rw[hcl] at eS;simp only at eS;refine JiK (fun c5=>?_) (fun c5=>?_)
  ·have c5:=Gg c5;rw[Gr (.inr (by simp only[List.length_cons];omega))] at eS;rw[eS];simp only[go_sem]
  have c5:=Gb c5;have c5:3≤t.length+1:=by omega
  rw[Gn (by simp only[List.length_cons];omega)] at eS;simp only[go_sem];unfold l188_0;refine JiJ (fun (i:Nat) S=>(1≤i∧i≤3)∧S.ρ 0=.str (b0::t)∧S.ρ 5=iz 3∧S.ρ 6=iz 2048∧S.ρ 7=iz i∧∃v,S.ρ 4=iz v∧Ya7 ((b0.toNat:Int)-224) (t.take (i-1))=some v∧0≤v∧v<64 ^ i) (fun i=>3-i) 1 ?_ ?_
  ·simp[go_sem,Ya7];omega
  ·intro i S ⟨hi,h0,h5,h6,h7,v,h4,hv,v0,v1⟩;have v2:v<16777216:=by
    have:i=1∨i=2∨i=3∨i=4:=by omega
    rcases this with rfl|rfl|rfl|rfl<;>simp at v1<;>omega
   simp only[go_sem,h5,h7];refine JiK (fun h=>?_) (fun h=>?_)
   ·have h:i<3:=by have:=Gg h;omega
    obtain⟨b,hb⟩:∃b,(b0::t)[i]?=some b:=⟨_,List.getElem?_eq_getElem (by simp only[List.length_cons];omega)⟩;have hb':t[i-1]?=some b:=by
     obtain⟨k,rfl⟩:∃k,i=k+1:=⟨i-1,by omega⟩;simpa using hb
    have lb:=b.toNat_lt;have hts:t.take (i+1-1)=t.take (i-1)++[b]:=by
     have:=Y4 hb';rwa [show i-1+1=i+1-1 by omega] at this
    have hsn:=YdA (l:=t.take (i-1)) (a:=((b0.toNat:Int)-224)) (b:=b);rw[hv,Option.bind_some,←hts] at hsn;have wb:IntKind.i64.wrap (b.toNat:Int)=b.toNat:=JiG (by omega) (by omega);have w1:IntKind.i64.wrap (64*v)=64*v:=JiG (by omega) (by omega);have w2:IntKind.i64.wrap (64*v+b.toNat)=64*v+b.toNat:=JiG (by omega) (by omega);have w3:IntKind.i64.wrap (64*v+b.toNat-128)=64*v+b.toNat-128:=JiG (by omega) (by omega);have bad:(b.toNat<128∨191<b.toNat)→Ydf (b0::t)=(-1,1):=fun hbad=>by
     rw[Gr hbad] at hsn;have:Ya7 ((b0.toNat:Int)-224) (t.take (3-1))=none:=by
      have e:t.take (3-1)=t.take (i+1-1)++(t.take (3-1)).drop (i+1-1):=by
       have:=G4 (i+1-1) (t.take (3-1));rw[List.take_take,GaB (by omega)] at this;exact this.symm
      rw[e];exact Ydz hsn
     rw[eS,this]
    simp only[go_sem,h0,h7,hb];cases d1:decide ((b.toNat:Int)<128) with
    |true=>
     have:=bad (.inl (by have:=Gg d1;omega));rw[this];simp only[go_sem]
    |false=>
     have d1':=Gb d1;simp only[go_sem,h0,h7,hb];refine JiK (fun d2=>?_) (fun d2=>?_)
     ·have:=bad (.inr (by have:=Gg d2;omega));rw[this];simp only[go_sem]
     ·have d2':=Gb d2;rw[Gn (by omega)] at hsn;simp only[go_sem,h0,h4,h5,h6,h7,hb,wb,w1,w2,w3];refine⟨i+1,by omega,by omega,by rw[Yn h (by omega)],_,rfl,hsn,by omega,?_⟩;rw[Int.pow_succ];omega
   ·have h:i=3:=by have:=Gb h;omega
    subst h;have hv:Ya7 ((b0.toNat:Int)-224) (t.take (3-1))=some v:=hv;rw[hv] at eS;simp only at eS;simp only[go_sem,h4,h6];cases f1:decide (v<2048) with
    |true=>
     rw[Gr (.inl (Gg f1))] at eS;rw[eS];simp only[go_sem]
    |false=>
    cases f2:decide (1114111<v) with
    |true=>
     rw[Gr (.inr (.inl (Gg f2)))] at eS;rw[eS];simp only[go_sem,f2,h4]
    |false=>
    have f1':=Gb f1;have f2':=Gb f2;cases f3:decide (55296≤v) with
    |false=>
     rw[Gn (by have:=Gb f3;omega)] at eS;rw[eS];simp only[go_sem,f2,f3,h4,h5]
    |true=>
    cases f4:decide (v<57344) with
    |true=>
     rw[Gr (.inr (.inr ⟨Gg f3,Gg f4⟩))] at eS;rw[eS];simp only[go_sem,f2,f3,f4,h4]
    |false=>
     rw[Gn (by have:=Gb f4;omega)] at eS;rw[eS];simp only[go_sem,f2,f3,f4,h4,h5]
 have c4:=Gb c4;have d3:decide (240≤(b0.toNat:Int))=true:=GD (by omega);simp only[go_sem,d3];refine JiK (fun c6=>?_) (fun c6=>?_)
 ·have c6:=Gg c6;have hcl:cls b0.toNat=(4,65536,(b0.toNat:Int)-240):=by rw[cls,Gn (by omega),Gn (by omega),Gr (by omega)]
  simp only[go_sem,w240];rw[hcl] at eS;simp only at eS;refine JiK (fun c5=>?_) (fun c5=>?_)
  ·have c5:=Gg c5;rw[Gr (.inr (by simp only[List.length_cons];omega))] at eS;rw[eS];simp only[go_sem]
  have c5:=Gb c5;have c5:4≤t.length+1:=by omega
  rw[Gn (by simp only[List.length_cons];omega)] at eS;simp only[go_sem];unfold l188_0;refine JiJ (fun (i:Nat) S=>(1≤i∧i≤4)∧S.ρ 0=.str (b0::t)∧S.ρ 5=iz 4∧S.ρ 6=iz 65536∧S.ρ 7=iz i∧∃v,S.ρ 4=iz v∧Ya7 ((b0.toNat:Int)-240) (t.take (i-1))=some v∧0≤v∧v<64 ^ i) (fun i=>4-i) 1 ?_ ?_
  ·simp[go_sem,Ya7];omega
  ·intro i S ⟨hi,h0,h5,h6,h7,v,h4,hv,v0,v1⟩;have v2:v<16777216:=by
    have:i=1∨i=2∨i=3∨i=4:=by omega
    rcases this with rfl|rfl|rfl|rfl<;>simp at v1<;>omega
   simp only[go_sem,h5,h7];refine JiK (fun h=>?_) (fun h=>?_)
   ·have h:i<4:=by have:=Gg h;omega
    obtain⟨b,hb⟩:∃b,(b0::t)[i]?=some b:=⟨_,List.getElem?_eq_getElem (by simp only[List.length_cons];omega)⟩;have hb':t[i-1]?=some b:=by
     obtain⟨k,rfl⟩:∃k,i=k+1:=⟨i-1,by omega⟩;simpa using hb
    have lb:=b.toNat_lt;have hts:t.take (i+1-1)=t.take (i-1)++[b]:=by
     have:=Y4 hb';rwa [show i-1+1=i+1-1 by omega] at this
    have hsn:=YdA (l:=t.take (i-1)) (a:=((b0.toNat:Int)-240)) (b:=b);rw[hv,Option.bind_some,←hts] at hsn;have wb:IntKind.i64.wrap (b.toNat:Int)=b.toNat:=JiG (by omega) (by omega);have w1:IntKind.i64.wrap (64*v)=64*v:=JiG (by omega) (by omega);have w2:IntKind.i64.wrap (64*v+b.toNat)=64*v+b.toNat:=JiG (by omega) (by omega);have w3:IntKind.i64.wrap (64*v+b.toNat-128)=64*v+b.toNat-128:=JiG (by omega) (by omega);have bad:(b.toNat<128∨191<b.toNat)→Ydf (b0::t)=(-1,1):=fun hbad=>by
     rw[Gr hbad] at hsn;have:Ya7 ((b0.toNat:Int)-240) (t.take (4-1))=none:=by
      have e:t.take (4-1)=t.take (i+1-1)++(t.take (4-1)).drop (i+1-1):=by
       have:=G4 (i+1-1) (t.take (4-1));rw[List.take_take,GaB (by omega)] at this;exact this.symm
      rw[e];exact Ydz hsn
     rw[eS,this]
    simp only[go_sem,h0,h7,hb];cases d1:decide ((b.toNat:Int)<128) with
    |true=>
     have:=bad (.inl (by have:=Gg d1;omega));rw[this];simp only[go_sem]
    |false=>
     have d1':=Gb d1;simp only[go_sem,h0,h7,hb];refine JiK (fun d2=>?_) (fun d2=>?_)
     ·have:=bad (.inr (by have:=Gg d2;omega));rw[this];simp only[go_sem]
     ·have d2':=Gb d2;rw[Gn (by omega)] at hsn;simp only[go_sem,h0,h4,h5,h6,h7,hb,wb,w1,w2,w3];refine⟨i+1,by omega,by omega,by rw[Yn h (by omega)],_,rfl,hsn,by omega,?_⟩;rw[Int.pow_succ];omega
   ·have h:i=4:=by have:=Gb h;omega
    subst h;have hv:Ya7 ((b0.toNat:Int)-240) (t.take (4-1))=some v:=hv;rw[hv] at eS;simp only at eS;simp only[go_sem,h4,h6];cases f1:decide (v<65536) with
    |true=>
     rw[Gr (.inl (Gg f1))] at eS;rw[eS];simp only[go_sem]
    |false=>
    cases f2:decide (1114111<v) with
    |true=>
     rw[Gr (.inr (.inl (Gg f2)))] at eS;rw[eS];simp only[go_sem,f2,h4]
    |false=>
    have f1':=Gb f1;have f2':=Gb f2;cases f3:decide (55296≤v) with
    |false=>
     rw[Gn (by have:=Gb f3;omega)] at eS;rw[eS];simp only[go_sem,f2,f3,h4,h5]
    |true=>
    cases f4:decide (v<57344) with
    |true=>
     rw[Gr (.inr (.inr ⟨Gg f3,Gg f4⟩))] at eS;rw[eS];simp only[go_sem,f2,f3,f4,h4]
    |false=>
     rw[Gn (by have:=Gb f4;omega)] at eS;rw[eS];simp only[go_sem,f2,f3,f4,h4,h5]
 have c6:=Gb c6;have hcl:cls b0.toNat=(0,0,(b0.toNat:Int)):=by rw[cls,Gn (by omega),Gn (by omega),Gn (by omega)]
 rw[hcl,Gr (.inl rfl)] at eS;rw[eS];simp only[go_sem]
end Sg
namespace Sg
open _root_.Go _root_.Go.RowKit _root_.Go.Proofs
def plainFm:List (Nat×Nat):=[(191,293)]
theorem okPlain:okF Tryz.prog (cxU plainFm) (onePg 191 F191) 293 F191=true:=by kernel_rfl
theorem plain_walk (r n:Int) (w:World) (hgn:2≤w.heap.size) (hT:Lib.Utf8Tabs 0 1 w) :
  Calls Tryz.prog 293 #[.int .i32 r,.int .i64 n] w fun e w'=>e=.returned (.bool (plainR r n))∧Below w.heap.size w w':=by
 have hk:K' (onePg 191 F191) 191 [.int .i32 r,.int .i64 n]=some (.bool (plainR r n)):=K191 (by simp[H191,onePg]) r n
 obtain⟨m,hm⟩:=K'_iff.1 hk
 have hc:=one_sound (P:=Tryz.prog) (cx:=cxU plainFm) (id:=191) (F:=F191) (by kernel_rfl) okPlain m 191 _ _ hm
 refine (hc.2 w (fun _=>False) #[.int .i32 r,.int .i64 n] (fun b hb=>hb.elim) hgn hT rfl (fun i hi=>by
  match i,hi with
  |0,_=>exact⟨_,rfl,.int _ _⟩
  |1,_=>exact⟨_,rfl,.int _ _⟩
  |k+2,hi=>exact absurd hi (by simp))).mono fun e w' ⟨v,he,hb,hr⟩=>?_
 have hr:=hr.data (fun b hb=>hb.elim)
 cases hr
 exact⟨he,hb⟩
theorem decCt (l:List (Nat×Nat)) (id:Nat) (h:(cxU l).fm id=292):∀args r,decQ args=some r→Ctr Tryz.prog (cxU l) none id args r:=
 dec_ctr (by rw[h];exact⟨_,Tryz.func292,by kernel_rfl,by kernel_rfl⟩) fun s w hG=>by rw[h];exact dec_walk s w hG
theorem keyCt (l:List (Nat×Nat)) (id:Nat) (h:(cxU l).fm id=260):∀args r,keyQ args=some r→Ctr Tryz.prog (cxU l) none id args r:=
 key_ctr (by rw[h];exact⟨_,Tryz.func260,by kernel_rfl,by kernel_rfl⟩) fun s w hgn hG=>by rw[h];exact key_walk s w hgn hG plain_walk
end Sg
namespace Sg
open _root_.Go (IntKind BinOp UnOp)
variable {Pg:PgT}
def putB (n:Nat):List UInt8:=if h:n<128 then [UInt8.ofNat n] else UInt8.ofNat (n % 128+128)::putB (n / 128)
termination_by n
decreasing_by omega
theorem YcO {n:Nat} (h:n<128):putB n=[UInt8.ofNat n]:=by rw[putB,dif_pos h]
theorem YcN {n:Nat} (h:128≤n):putB n=UInt8.ofNat (n % 128+128)::putB (n / 128):=by rw[putB,dif_neg (by omega)]
def tk:Nat→List UInt8→Option (Nat×List UInt8)
 |_,[]=>none
 |0,_::_=>none
 |k+1,b::s=>if b.toNat<128 then some (b.toNat,s) else (tk k s).bind fun q=>if q.1=0 then none else some (b.toNat-128+128*q.1,q.2)
theorem YbJ {n:Nat} (h:n<256):(UInt8.ofNat n).toNat=n:=by
 simp[UInt8.toNat_ofNat'];omega
theorem Ycz (n:Nat):1≤(putB n).length:=by
 rw[putB];split<;>simp
theorem Yfg:∀(k n:Nat) (r:List UInt8),(putB n).length≤k→tk k (putB n++r)=some (n,r)
 |0,n,r,h=>by have:=Ycz n;omega
 |k+1,n,r,h=>by
  by_cases hn:n<128
  ·rw[YcO hn];simp only[List.cons_append,List.nil_append,tk,YbJ (show n<256 by omega),Gr hn]
  ·rw[YcN (by omega)] at h ⊢;simp only[List.length_cons] at h;simp only[List.cons_append,tk,YbJ (show n % 128+128<256 by omega)];rw[Gn (by omega),Yfg k (n / 128) r (by omega)];simp only[Option.bind_some];rw[Gn (by omega)]
   congr 2
   omega
theorem YdN:∀{k:Nat} {s:List UInt8} {n:Nat} {r:List UInt8},tk k s=some (n,r)→s=putB n++r∧(putB n).length≤k
 |_,[],n,r,h=>by simp[tk] at h
 |0,_::_,n,r,h=>by simp[tk] at h
 |k+1,b::s,n,r,h=>by
  simp only[tk] at h;split at h
  ·rename_i hb;simp only[Ga,Gl] at h;obtain⟨rfl,rfl⟩:=h;rw[YcO hb];refine⟨?_,by simp⟩;simp
  ·rename_i hb;cases hq:tk k s with
   |none=>rw[hq] at h;simp at h
   |some q=>
    rw[hq] at h;simp only[Option.bind_some] at h;split at h
    ·cases h
    rename_i h0;obtain⟨m,r'⟩:=q;simp only[Ga,Gl] at h h0;obtain⟨rfl,rfl⟩:=h;obtain⟨e,hl⟩:=YdN hq;have hb2:=b.toNat_lt;have e1:(b.toNat-128+128*m) % 128+128=b.toNat:=by omega
    have e2:(b.toNat-128+128*m) / 128=m:=by omega
    rw[YcN (by omega),e1,e2,e];exact⟨by simp,by simp only[List.length_cons];omega⟩
theorem Yix {k:Nat} {s:List UInt8} {n:Nat} {r:List UInt8}:tk k s=some (n,r)↔s=putB n++r∧(putB n).length≤k:=
 ⟨YdN,fun⟨e,h⟩=>by rw[e];exact Yfg k n r h⟩
theorem Ydo:∀(k n:Nat),(putB n).length≤k+1↔n<128 ^ (k+1)
 |0,n=>by
  by_cases hn:n<128
  ·rw[YcO hn];simpa using hn
  ·rw[YcN (by omega)];have:=Ycz (n / 128);simp only[List.length_cons];constructor
   ·intro h;omega
   ·intro h;simp at h;omega
 |k+1,n=>by
  by_cases hn:n<128
  ·rw[YcO hn];simp only[List.length_singleton];refine⟨fun _=>?_,fun _=>by omega⟩;have:128 ^ 1≤128 ^ (k+1+1):=Nat.pow_le_pow_right (by omega) (by omega);omega
  ·rw[YcN (by omega)];simp only[List.length_cons];have:=Ydo k (n / 128);rw[Nat.add_le_add_iff_right,this,Nat.pow_succ 128 (k+1),Nat.div_lt_iff_lt_mul (by omega)]
theorem Ybc {n:Nat}:(putB n).length≤9↔n<2 ^ 63:=by
 have e:(128:Nat) ^ (8+1)=2 ^ 63:=by decide
 rw[Ydo 8 n,e]
theorem Yls {s:List UInt8} {n:Nat} {r:List UInt8} (h:tk 9 s=some (n,r)):n<2 ^ 63:=Ybc.1 (YdN h).2
def Yak (t:List UInt8):List UInt8:=putB t.length++t
def Ya0 (b:Bool):List UInt8:=[if b then 1 else 0]
def tkT (s:List UInt8):Option (List UInt8×List UInt8):=(tk 9 s).bind fun q=>if q.1≤q.2.length then some (q.2.take q.1,q.2.drop q.1) else none
def tkF:List UInt8→Option (Bool×List UInt8)
 |[]=>none
 |b::s=>if b.toNat≤1 then some (decide (b.toNat=1),s) else none
theorem Yjd {s t r:List UInt8}:tkT s=some (t,r)↔s=Yak t++r∧t.length<2 ^ 63:=by
 unfold tkT Yak;constructor
 ·intro h;cases hq:tk 9 s with
  |none=>rw[hq] at h;cases h
  |some q=>
   obtain⟨n,u⟩:=q;rw[hq] at h;simp only[Option.bind_some] at h;split at h
   ·rename_i hn;simp only[Ga,Gl] at h;obtain⟨rfl,rfl⟩:=h;have hl:(u.take n).length=n:=by simp;omega
    refine⟨?_,by rw[hl];exact Yls hq⟩;rw[hl,(YdN hq).1,GS,G4]
   ·cases h
 ·rintro⟨rfl,h⟩;rw[GS,Yfg 9 _ _ (Ybc.2 h)];simp
theorem Ylg {s r:List UInt8} {b:Bool}:tkF s=some (b,r)↔s=Ya0 b++r:=by
 cases s with
 |nil=>simp[tkF,Ya0]
 |cons x s=>
  simp only[tkF,Ya0,List.cons_append,List.nil_append,Gax];constructor
  ·intro h;split at h
   ·rename_i hx;simp only[Ga,Gl] at h;obtain⟨rfl,rfl⟩:=h;refine⟨?_,rfl⟩;apply UInt8.toNat_inj.1;by_cases h1:x.toNat=1
    ·simp[h1]
    ·have:x.toNat=0:=by omega
     simp[this]
   ·cases h
  ·rintro⟨rfl,rfl⟩;cases b<;>simp
def val:List UInt8→Nat
 |[]=>0
 |b::l=>b.toNat % 128+128*val l
theorem Ylj:∀n,val (putB n)=n:=by
 intro n
 induction n using Nat.strongRecOn with
 |_ n ih=>
  by_cases h:n<128
  ·rw[YcO h];simp only[val,YbJ (show n<256 by omega)];omega
  ·rw[YcN (by omega)];simp only[val,YbJ (show n % 128+128<256 by omega),ih _ (show n / 128<n by omega)];omega
theorem Yiz:∀l:List UInt8,val l<128 ^ l.length
 |[]=>by simp[val]
 |b::l=>by
  have:=Yiz l;simp only[val,List.length_cons,Nat.pow_succ];omega
theorem Yk5:∀n,∃l c,putB n=l++[c]∧(∀b∈l,128≤b.toNat)∧c.toNat<128:=by
 intro n
 induction n using Nat.strongRecOn with
 |_ n ih=>
  by_cases h:n<128
  ·exact⟨[],UInt8.ofNat n,YcO h,fun b hb=>by simp at hb,by rw[YbJ (by omega)];exact h⟩
  ·obtain⟨l,c,e,h1,h2⟩:=ih _ (show n / 128<n by omega);refine⟨UInt8.ofNat (n % 128+128)::l,c,by rw[YcN (by omega),e];rfl,fun b hb=>?_,h2⟩;rcases GI.1 hb with rfl|hb
   ·rw[YbJ (by omega)];omega
   ·exact h1 b hb
theorem YiL:∀{l l':List UInt8} {c c':UInt8} {r r':List UInt8},l++c::r=l'++c'::r'→(∀b∈l,128≤b.toNat)→(∀b∈l',128≤b.toNat)→c.toNat<128→c'.toNat<128→l=l'∧c=c'∧r=r'
 |[],[],c,c',r,r',h,_,_,_,_=>by simp at h;exact⟨rfl,h.1,h.2⟩
 |[],b'::l',c,c',r,r',h,_,h2,h3,_=>by
  simp at h;have:=h2 b' (by simp);rw[←h.1] at this;omega
 |b::l,[],c,c',r,r',h,h1,_,_,h4=>by
  simp at h;have:=h1 b (by simp);rw[h.1] at this;omega
 |b::l,b'::l',c,c',r,r',h,h1,h2,h3,h4=>by
  simp at h;obtain⟨e1,e2,e3⟩:=YiL h.2 (fun x hx=>h1 x (by simp[hx])) (fun x hx=>h2 x (by simp[hx])) h3 h4;exact⟨by rw[h.1,e1],e2,e3⟩
theorem tk_end {k:Nat} {l:List UInt8} {c:UInt8} {r:List UInt8} (hl:∀b∈l,128≤b.toNat) (hc:c.toNat<128) :
  tk k (l++c::r)=if l.length+1≤k∧putB (val (l++[c]))=l++[c] then some (val (l++[c]),r) else none:=by
 split
 ·rename_i h
  rw[Yix,h.2]
  exact⟨by simp,by simp;omega⟩
 ·rename_i h
  cases hq:tk k (l++c::r) with
  |none=>rfl
  |some q=>
   exfalso
   apply h
   obtain⟨m,r'⟩:=q
   obtain⟨e,hlen⟩:=YdN hq
   obtain⟨l',c',p1,p2,p3⟩:=Yk5 m
   rw[p1,GS] at e
   obtain⟨rfl,rfl,-⟩:=YiL e hl p2 hc p3
   rw[p1] at hlen
   rw[←p1,Ylj]
   exact⟨by simpa using hlen,rfl⟩
theorem tk_no:∀{k:Nat} {s:List UInt8},(∀b∈s.take k,128≤b.toNat)→tk k s=none
 |_,[],_=>by simp[tk]
 |0,_::_,_=>by simp[tk]
 |k+1,b::s,h=>by
  have h1:=h b (by simp);simp only[tk];rw[Gn (by omega),tk_no (fun x hx=>h x (by simp[hx]))]
  rfl
@[go_sem] def Yi (l:List Int):V:=.slice 1 (l.map fun a=>[iz a])
def H62 (Pg:PgT):Prop:=Pg 62=some (.code F62)
theorem K62 (h:H62 Pg) (l:List Int) (n:Int) (hl:l.length<2 ^ 60):K' Pg 62 [Yi l,iz n]=some (.bool (decide (n∈l))):=by
 refine Qb h rfl ?_;simp only[go_sem];unfold l62_0;refine JiJ (fun (i:Nat) S=>i≤l.length∧S.ρ 0=Yi l∧S.ρ 1=iz n∧S.ρ 5=iz i∧n∉l.take i) (fun i=>l.length-i) 0 ?_ ?_
 ·simp[go_sem]
 ·intro i S ⟨hi,h0,h1,h5,ho⟩;simp only[go_sem,h0,h5];refine JiK (fun h=>?_) (fun h=>?_)
  ·have h:=Yj h;obtain⟨x,hx,hd⟩:=Jiq h;simp only[go_sem,h0,h1,h5,hx];refine JiK (fun hc=>?_) (fun hc=>?_)
   ·have hc:x=n:=Gg hc;have:n∈l:=hc▸List.mem_of_getElem? hx;simp only[go_sem,this]
   ·have hc:x≠n:=Gb hc;simp only[go_sem,h0,h1,h5];refine⟨i+1,by omega,by omega,by rw[Yn h hl],?_⟩;rw[Y4 hx];simp;exact⟨ho,fun e=>hc e.symm⟩
  ·have h:=YE hi h;rw[YbU h] at ho;simp only[go_sem,ho]
def Ygu:List Int→Int→Nat→Int
 |[],_,_=>-1
 |a::l,n,i=>if n=a then i else Ygu l n (i+1)
theorem YhG:∀{l:List Int} {n:Int} {i:Nat},decide (0≤Ygu l n i)=decide (n∈l)
 |[],n,i=>by simp[Ygu]
 |a::l,n,i=>by
  simp only[Ygu];split
  ·rename_i h;simp[h]
  ·rename_i h;rw[YhG];simp[h]
def H75 (Pg:PgT):Prop:=Pg 75=some (.code F75)
theorem K75 (h:H75 Pg) (l:List Int) (n:Int) (hl:l.length<2 ^ 60):K' Pg 75 [Yi l,iz n]=some (iz (Ygu l n 0)):=by
 refine Qb h rfl ?_;simp only[go_sem];unfold l75_0;refine JiJ (fun (i:Nat) S=>i≤l.length∧S.ρ 0=Yi l∧S.ρ 1=iz n∧S.ρ 7=iz l.length∧S.ρ 8=iz i∧Ygu (l.drop i) n i=Ygu l n 0) (fun i=>l.length-i) 0 ?_ ?_
 ·simp[go_sem]
 ·intro i S ⟨hi,h0,h1,h7,h8,ho⟩;simp only[go_sem,h7,h8];refine JiK (fun h=>?_) (fun h=>?_)
  ·have h:=Yj h;obtain⟨x,hx,hd⟩:=Jiq h;rw[hd] at ho;simp only[go_sem,h0,h1,h8,hx];refine JiK (fun hc=>?_) (fun hc=>?_)
   ·have hc:n=x:=Gg hc;simp only[Ygu,hc,Gz] at ho;simp only[go_sem,←ho,hc]
   ·have hc:¬n=x:=Gb hc;simp only[Ygu,hc,Gu] at ho;simp only[go_sem,h0,h1,h7,h8];exact⟨i+1,by omega,by omega,by rw[Yn h hl],ho⟩
  ·have h:=YE hi h;subst h;simp only[GW,Ygu] at ho;simp only[go_sem,←ho]
def H65 (Pg:PgT):Prop:=Pg 65=some (.code F65)∧H75 Pg
theorem K65 (h:H65 Pg) (l:List Int) (n:Int) (hl:l.length<2 ^ 60):K' Pg 65 [Yi l,iz n]=some (.bool (decide (n∈l))):=by
 obtain⟨h,h75⟩:=h;refine Qb h rfl ?_;have k75:=K75 h75 l n hl;simp only[Yi] at k75;simp only[go_sem,k75,YhG]
def Ygt:List Int→(Int→Bool)→Nat→Int
 |[],_,_=>-1
 |a::l,p,i=>if p a then i else Ygt l p (i+1)
theorem YhF:∀{l:List Int} {p:Int→Bool} {i:Nat},decide (0≤Ygt l p i)=l.any p
 |[],n,i=>by simp[Ygt]
 |a::l,n,i=>by
  simp only[Ygt];split
  ·rename_i h;simp[h]
  ·rename_i h;rw[YhF];simp[h]
def H76 (Pg:PgT):Prop:=Pg 76=some (.code F76)
theorem K76 (h:H76 Pg) (l:List Int) (g:Nat) (cap:List V) (p:Int→Bool) (hl:l.length<2 ^ 60) (hcap:cap.all V.datC=true) (hg:∀x∈l,K' Pg g (iz x::cap)=some (.bool (p x))) :
  K' Pg 76 [Yi l,.func g cap]=some (iz (Ygt l p 0)):=by
 refine Qb h rfl ?_
 simp only[go_sem]
 unfold l76_0
 refine JiJ (fun (i:Nat) S=>i≤l.length∧S.ρ 0=Yi l∧S.ρ 1=.func g cap∧S.ρ 7=iz l.length∧S.ρ 8=iz i∧Ygt (l.drop i) p i=Ygt l p 0) (fun i=>l.length-i) 0 ?_ ?_
 ·simp[go_sem]
 ·intro i S ⟨hi,h0,h1,h7,h8,ho⟩
  simp only[go_sem,h7,h8]
  refine JiK (fun h=>?_) (fun h=>?_)
  ·have h:=Yj h
   obtain⟨x,hx,hd⟩:=Jiq h
   rw[hd] at ho
   have hgx:=hg x (List.mem_of_getElem? hx)
   simp only[go_sem,h0,h1,h8,hx,hgx]
   refine JiK (fun hc=>?_) (fun hc=>?_)
   ·simp only[Ygt,hc,Gz] at ho
    simp only[go_sem,←ho]
   ·simp only[Ygt,hc,Gm,Gu] at ho
    simp only[go_sem,h0,h1,h7,h8]
    exact⟨i+1,by omega,by omega,by rw[Yn h hl],ho⟩
  ·have h:=YE hi h
   subst h
   simp only[GW,Ygt] at ho
   simp only[go_sem,←ho]
def H67 (Pg:PgT):Prop:=Pg 67=some (.code F67)∧H76 Pg
theorem K67 (h:H67 Pg) (l:List Int) (g:Nat) (cap:List V) (p:Int→Bool) (hl:l.length<2 ^ 60) (hcap:cap.all V.datC=true) (hg:∀x∈l,K' Pg g (iz x::cap)=some (.bool (p x))) :
  K' Pg 67 [Yi l,.func g cap]=some (.bool (l.any p)):=by
 obtain⟨h,h76⟩:=h
 refine Qb h rfl ?_
 have k76:=K76 h76 l g cap p hl hcap hg
 simp only[Yi] at k76
 simp only[go_sem,k76,YhF]
def SetP (l:List Int):Prop:=l.length≤8∧(∀m∈l,1≤m∧m≤255)∧l.Nodup
instance (l:List Int):Decidable (SetP l):=inferInstanceAs (Decidable (_∧_∧_))
theorem YfA {l:List Int} {i:Nat} {x:Int} (hx:l[i]?=some x) (h:¬(1≤x∧x≤255)∨x∈l.take i):¬SetP l:=by
 rintro⟨-,h2,h3⟩;rcases h with h|h
 ·exact h (h2 x (List.mem_of_getElem? hx))
 ·have hi:i<l.length:=by
   rcases GA i l.length with h|h
   ·exact h
   ·rw[List.getElem?_eq_none h] at hx;simp at hx
  obtain⟨y,hy,hd⟩:=Jiq hi;have:x=y:=by rw[hx] at hy;simpa using hy
  subst this;rw[←G4 i l,hd,GaJ] at h3;exact h3.2.2 x h x (GR ..) rfl
theorem YhU {l:List Int} {i:Nat} {x:Int} (hx:l[i]?=some x) (h:(∀m∈l.take i,1≤m∧m≤255)∧(l.take i).Nodup) (h1:1≤x∧x≤255) (h2:x∉l.take i) :
  (∀m∈l.take (i+1),1≤m∧m≤255)∧(l.take (i+1)).Nodup:=by
 rw[Y4 hx]
 refine⟨fun m hm=>?_,?_⟩
 ·rcases GT.1 hm with hm|hm
  ·exact h.1 m hm
  ·have:m=x:=by simpa using hm
   rw[this];exact h1
 ·rw[GaJ]
  refine⟨h.2,by simp,fun a ha b hb e=>?_⟩
  have:b=x:=by simpa using hb
  rw[←this,←e] at h2
  exact h2 ha
def rowB (b:UInt8):List V:=[.int .u8 b.toNat]
theorem Yh3 (l:List UInt8):bytesR (l.map rowB)=some l:=Jce l
theorem YlT {n:Nat} (h:n<256):rowB (UInt8.ofNat n)=[.int .u8 n]:=by simp[rowB,YbJ h]
theorem u8w {n:Nat}:IntKind.u8.wrap (n:Int)=((n % 256:Nat):Int):=by simp[IntKind.wrap,IntKind.bits,IntKind.signed]
theorem Ymw (n:Nat):IntKind.u8.wrap ((BitVec.ofInt 8 (IntKind.u8.wrap (n:Int)) ||| BitVec.ofInt 8 128).toNat:Int)=((n % 128+128:Nat):Int):=by
 have key:∀x:Fin 256,IntKind.u8.wrap ((BitVec.ofInt 8 ((x.1:Nat):Int) ||| BitVec.ofInt 8 128).toNat:Int)=((x.1 % 128+128:Nat):Int):=by decide
 rw[u8w (n:=n)];have:=key ⟨n % 256,by omega⟩;simp only at this;rw[this];omega
theorem Yh4 (l:List UInt8) (n:Nat):bytesR (l.map rowB++[[.int .u8 (n:Int)]])=some (l++[UInt8.ofNat n]):=by
 induction l with
 |nil=>simp[bytesR]
 |cons b l ih=>
  show bytesR (rowB b::(l.map rowB++_))=_
  simp only[rowB,bytesR,ih];simp
theorem YmD (n:Nat):((n:Int).fdiv (2 ^ 7))=((n / 128:Nat):Int):=by
 have:((2:Int) ^ 7)=((128:Nat):Int):=rfl;rw[this];exact (Int.ofNat_fdiv n 128).symm
def H456 (Pg:PgT):Prop:=Pg 456=some (.code F456)
theorem K456 (h:H456 Pg) (n:Nat) (hn:n<2 ^ 63):K' Pg 456 [iz n]=some (.tuple [.str (putB n),iz 0]):=by
 refine Qb h rfl ?_;have c0:decide ((n:Int)<0)=false:=Gp (by omega);simp only[F456,c456,go_sem,c0];unfold l456_0;refine JiJ (fun (m:Nat) S=>∃pre:List UInt8,pre++putB m=putB n∧S.ρ 0=iz m∧S.ρ 4=.own 4 1 pre.length∧S.A 4=some (1,pre.map rowB,.live)) (fun m=>m) n ?_ ?_
 ·exact⟨[],rfl,rfl,rfl,rfl⟩
 ·intro m S ⟨pre,hp,s0,s4,a4⟩;have hlen:pre.length+1≤9:=by
   have h1:=Ybc.2 hn;have h2:=Ycz m;rw[←hp,Ge] at h1;omega
  have hlim:pre.length+1≤lim:=by unfold lim;omega
  cases c1:decide ((128:Int)≤m) with
  |true=>
   have h128:128≤m:=by have:=Gg c1;omega
   rw[YcN h128] at hp;have w7:((m:Int).fdiv (2 ^ min (Int.toNat 7) 64))=((m / 128:Nat):Int):=YmD m;have hsh:shV .shr (iz m) (.int .u64 7)=some (iz ((m / 128:Nat):Int)):=by simp only[shV];rw[Gn (by omega)];exact Gaz (fun x=>some (V.int .i64 x)) (YmD m)
   simp only[go_sem,s0,s4,a4,c1,Gj,hlim,hsh];refine⟨m / 128,by omega,pre++[UInt8.ofNat (m % 128+128)],by rw[←hp];simp,rfl,by rw[Ge];rfl,?_⟩;rw[GF,GC,YlT (by omega),←Ymw];rfl
  |false=>
   have h128:m<128:=by have:=Gb c1;omega
   rw[YcO h128] at hp;have hw:IntKind.u8.wrap (m:Int)=(m:Int):=by rw[u8w];omega
   simp only[go_sem,s0,s4,a4,c1,hw,Gj,hlim,Yh4,hp]
def H484 (Pg:PgT):Prop:=Pg 484=some (.code F484)∧H456 Pg
theorem K484 (h:H484 Pg) (t:List UInt8) (ht:t.length<2 ^ 61):K' Pg 484 [.str t]=some (.str (Yak t)):=by
 obtain⟨h,h456⟩:=h;have k:=K456 h456 t.length (by omega);have hl:(putB t.length).length+t.length≤4611686018427387904:=by have:=Ybc.2 (show t.length<2 ^ 63 by omega);omega
 refine Qb h rfl ?_;simp only[F484,c484,go_sem,k,hl,Yak]
def H485 (Pg:PgT):Prop:=Pg 485=some (.code F485)
theorem K485 (h:H485 Pg) (b:Bool):K' Pg 485 [.bool b]=some (.str (Ya0 b)):=by
 refine Qb h rfl ?_;cases b<;>simp only[F485,c485,go_sem,Ya0]<;>rfl
def YcI (n:Nat):List Int:=if h:n<128 then [(n:Int)] else ((n % 128:Nat):Int)::YcI (n / 128)
termination_by n
decreasing_by omega
theorem Yg5 {n:Nat} (h:n<128):YcI n=[(n:Int)]:=by rw[YcI,dif_pos h]
theorem Yg4 {n:Nat} (h:128≤n):YcI n=((n % 128:Nat):Int)::YcI (n / 128):=by rw[YcI,dif_neg (by omega)]
theorem YfJ:∀n,(YcI n).length=(putB n).length:=by
 intro n
 induction n using Nat.strongRecOn with
 |_ n ih=>
  by_cases h:n<128
  ·rw[Yg5 h,YcO h];rfl
  ·rw[Yg4 (by omega),YcN (by omega),List.length_cons,List.length_cons,ih _ (by omega)]
theorem YgC (n:Nat):YcI n=((n % 128:Nat):Int)::(if n / 128=0 then [] else YcI (n / 128)):=by
 by_cases h:n<128
 ·rw[Yg5 h,Gr (by omega),Nat.mod_eq_of_lt h]
 ·rw[Yg4 (by omega),Gn (by omega)]
theorem YiK (n:Nat):(n:Int).tmod 128=((n % 128:Nat):Int):=rfl
theorem YkH (n:Nat):(n:Int).tdiv 128=((n / 128:Nat):Int):=rfl
def H502 (Pg:PgT):Prop:=Pg 502=some (.code F502)
theorem K502 (h:H502 Pg) (n:Nat) (hn:n<2 ^ 63):K' Pg 502 [iz n]=some (Yi (YcI n)):=by
 refine Qb h rfl ?_;have wd:∀m:Nat,m<2 ^ 63→IntKind.i64.wrap ((m:Int).tdiv 128)=((m / 128:Nat):Int):=fun m hm=>by
  rw[YkH,JiG (by omega) (by omega)]
 have hl9:=Ybc.2 hn;rw[←YfJ] at hl9;simp only[F502,c502,go_sem,wd n hn,YiK];unfold l502_0;refine JiJ (fun (m:Nat) S=>m<2 ^ 63∧∃pre:List Int,pre++(if m=0 then [] else YcI m)=YcI n∧S.ρ 0=iz m∧S.ρ 3=.own 6 1 pre.length∧S.A 6=some (1,pre.map (fun a=>[iz a]),.live)) (fun m=>m) (n / 128) ?_ ?_
 ·exact⟨by omega,[((n % 128:Nat):Int)],(YgC n).symm,rfl,rfl,rfl⟩
 ·intro m S ⟨hm,pre,hp,s0,s3,a6⟩;cases c1:decide ((0:Int)<m) with
  |true=>
   have h0:0<m:=by have:=Gg c1;omega
   rw[Gn (by omega),YgC] at hp;have hlim:pre.length+1≤lim:=by
    have:=Gaz List.length hp;rw[Ge,List.length_cons] at this;unfold lim;omega
   simp only[go_sem,s0,s3,a6,c1,YiK,wd m hm,Gj,hlim];refine⟨m / 128,by omega,by omega,pre++[((m % 128:Nat):Int)],by rw[←hp];simp,rfl,by rw[Ge];rfl,by rw[GF];rfl⟩
  |false=>
   have h0:m=0:=by have:=Gb c1;omega
   subst h0;rw[Gr rfl,Gv] at hp;simp only[go_sem,s0,s3,a6,hp,Gj]
theorem YjO:∀(n:Nat) (i:Nat) (d:Int),(YcI n)[i]?=some d→(putB n)[i]?=some (UInt8.ofNat (d.toNat+if i+1<(YcI n).length then 128 else 0))∧0≤d∧d<128:=by
 intro n
 induction n using Nat.strongRecOn with
 |_ n ih=>
  intro i d hd;by_cases h:n<128
  ·rw[Yg5 h] at hd ⊢;rw[YcO h];cases i with
   |zero=>simp at hd;subst hd;simp;omega
   |succ i=>simp at hd
  ·have:=Ycz (n / 128);rw[Yg4 (by omega)] at hd ⊢;rw[YcN (by omega)];have hl:=YfJ (n / 128);cases i with
   |zero=>
    simp at hd;subst hd;simp only[List.getElem?_cons_zero,List.length_cons];rw[Gr (by omega)];exact⟨by congr 2,by omega,by omega⟩
   |succ i=>
    simp only[List.getElem?_cons_succ] at hd ⊢;obtain⟨e1,e2,e3⟩:=ih _ (by omega) i d hd;rw[e1];refine⟨?_,e2,e3⟩;simp only[List.length_cons,Nat.add_lt_add_iff_right]
def H487 (Pg:PgT):Prop:=Pg 487=some (.code F487)∧H502 Pg
theorem K487 (h:H487 Pg) (n:Nat) (hn:n<2 ^ 63):K' Pg 487 [iz n]=some (.tuple [.str (putB n),iz 0]):=by
 obtain⟨h,h502⟩:=h;have k502:=K502 h502 n hn;simp only[go_sem] at k502;refine Qb h rfl ?_;have c0:decide ((n:Int)<0)=false:=Gp (by omega);have hl:=YfJ n;have hl9:=Ybc.2 hn;simp only[F487,c487,go_sem,c0,k502];unfold l487_0;refine JiJ (fun (i:Nat) S=>i≤(YcI n).length∧S.ρ 4=.slice 1 ((YcI n).map fun a=>[iz a])∧S.ρ 5=.str ((putB n).take i)∧S.ρ 6=iz i) (fun i=>(YcI n).length-i) 0 ?_ ?_
 ·exact⟨GE _,rfl,rfl,rfl⟩
 ·intro i S ⟨hi,s4,s5,s6⟩;cases c1:decide ((i:Int)<((YcI n).length:Int)) with
  |false=>
   have hi':i=(putB n).length:=by have:=Gb c1;omega
   rw[hi',GM] at s5;simp only[go_sem,s4,s5,s6,c1,Gj]
  |true=>
   have hlt:=Yj c1;obtain⟨d,hd,-⟩:=Jiq hlt;obtain⟨p1,p2,p3⟩:=YjO n i d hd;have htk:(putB n).take (i+1)=(putB n).take i++[UInt8.ofNat (d.toNat+if i+1<(YcI n).length then 128 else 0)]:=by rw[G8,p1];rfl
   have hinc:=inc64q (i:=i) (by omega)
   have hdec:IntKind.i64.wrap (((YcI n).length:Int)-1)=((YcI n).length:Int)-1:=JiG (by omega) (by omega);have hstr:((putB n).take i).length+1≤4611686018427387904:=by rw[GG];omega
   cases c2:decide ((i:Int)<((YcI n).length:Int)-1) with
   |true=>
    have h2:i+1<(YcI n).length:=by have:=Gg c2;omega
    rw[Gr h2] at htk;have hw:IntKind.i64.wrap (d+128)=d+128:=JiG (by omega) (by omega);have hb:IntKind.u8.wrap (d+128)=d+128:=by simp[IntKind.wrap,IntKind.bits,IntKind.signed];omega
    have hto:(d+128).toNat=d.toNat+128:=by omega
    simp only[go_sem,s4,s5,s6,c1,c2,hd,hinc,hdec,hw,hb,hto,hstr,Gj,List.length_cons,List.length_nil];exact⟨i+1,by omega,by omega,by rw[htk],rfl⟩
   |false=>
    have h2:¬i+1<(YcI n).length:=by have:=Gb c2;omega
    rw[Gn h2,Nat.add_zero] at htk;have hb:IntKind.u8.wrap d=d:=by simp[IntKind.wrap,IntKind.bits,IntKind.signed];omega
    simp only[go_sem,s4,s5,s6,c1,c2,hd,hinc,hdec,hb,hstr,Gj,List.length_cons,List.length_nil];exact⟨i+1,by omega,by omega,by rw[htk];rfl,rfl⟩
end Sg
