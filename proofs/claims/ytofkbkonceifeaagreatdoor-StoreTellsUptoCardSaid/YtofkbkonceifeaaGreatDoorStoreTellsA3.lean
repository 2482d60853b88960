/- StoreTells, wherever what it reads is of bulk at most 1048576: proved over a checked abstract run of the translated code; no condition but that. A part. -/
import Derived.Test.YtofkbkonceifeaaGreatDoorChecked
import Derived.Lib.LaidU8
import Derived.Lib.OthersKept
import Derived.Laws.RangeAny
import Derived.WalkKit
import Derived.BigCall
import Derived.Test.YtofkbkonceifeaaGreatDoorG2
set_option linter.unusedSimpArgs false
set_option linter.unusedVariables false
set_option maxRecDepth 100000
namespace Sg
def look {α:Type}:List (Nat×α)→Nat→Option α
 |[],_=>none
 |(k,a)::l,n=>if k=n then some a else look l n
def plQ:Option Nat→Bool
 |some j=>decide (j<3000)
 |none=>true
def rfQ (F:F) (j:Nat):Bool:=F.own.isNone&&nsC j F.body&&decide (j<1000)
def okTab (P:Go.Program) (cx:Cx) (tab:List (Nat×Fn)):List (Nat×Fn)→Bool
 |[]=>true
 |(k,.code F)::l=>okF P cx (look tab) (cx.fm k) F&&okTab P cx tab l
 |(k,.codeR F j)::l=>okF P cx (look tab) (cx.fm k) F&&rfQ F j&&okTab P cx tab l
 |(_,.prim o _)::l=>plQ o&&okTab P cx tab l
theorem look_mem {α:Type}:∀{l:List (Nat×α)} {n:Nat} {a:α},look l n=some a→(n,a)∈l
 |(k,b)::l,n,a,h=>by
  simp only[look] at h
  split at h
  ·rename_i e;subst e;simp only[Option.some.injEq] at h;subst h;exact List.mem_cons_self
  ·exact List.mem_cons_of_mem _ (look_mem h)
 |[],n,a,h=>by simp[look] at h
def fnQ (P:Go.Program) (cx:Cx) (tab:List (Nat×Fn)) (k:Nat):Fn→Prop
 |.code F=>okF P cx (look tab) (cx.fm k) F=true
 |.codeR F j=>okF P cx (look tab) (cx.fm k) F=true∧rfQ F j=true
 |.prim o _=>plQ o=true
theorem Ybe {P:Go.Program} {cx:Cx} {tab:List (Nat×Fn)}:∀{l:List (Nat×Fn)},okTab P cx tab l=true→∀k f,(k,f)∈l→fnQ P cx tab k f
 |(k',g)::l,h,k,f,hm=>by
  have h2:fnQ P cx tab k' g∧okTab P cx tab l=true:=by
   cases g<;>simp only[okTab,Bool.and_eq_true] at h
   ·exact h
   ·exact h
   ·exact⟨h.1,h.2⟩
  simp only[List.mem_cons,Prod.mk.injEq] at hm
  rcases hm with ⟨rfl,rfl⟩|hm
  ·exact h2.1
  ·exact Ybe h2.2 k f hm
 |[],h,k,f,hm=>by simp at hm
theorem tab_sound {P:Go.Program} {cx:Cx} {tab:List (Nat×Fn)} (hm:P.follows .mixedOrders=true) (hok:okTab P cx tab tab=true)
  (hprim:∀f own p,look tab f=some (.prim own p)→∀args r,p args=some r→Ctr P cx own f args r)
  (hins:∀f z p,z<1000→look tab f=some (.prim (some (1000+z)) p)→∃tS el,InsC P (cx.fm f) z tS el) (hdel:∀f z p,look tab f=some (.prim (some (2000+z)) p)→DelC P (cx.fm f) z)
  (n f:Nat) (args:List V) (r:V) (h:Jm (look tab) n f args=some r):Ctr P cx (ownOf (look tab) f) f args r:=
 (J0 hm (fun f F hf=>Ybe hok f _ (look_mem hf)) hprim hins hdel (fun f F k hf=>by
  have h1:fnQ P cx tab f (.codeR F k):=Ybe hok f _ (look_mem hf)
  have h2:=h1.2
  simp only[rfQ,Bool.and_eq_true,Option.isNone_iff_eq_none] at h2
  exact⟨h1.1,h2.1.1,h2.1.2⟩) (fun f own p hf k hk ho=>by
  have h1:fnQ P cx tab f (.prim own p):=Ybe hok f _ (look_mem hf)
  subst ho
  simp only[fnQ,plQ,decide_eq_true_eq] at h1
  omega) n f args r h).1
end Sg
namespace Sg
open _root_.Go (IntKind BinOp UnOp)
@[go_sem] abbrev z_0 : List V := [.str [],.str [],.int .i64 0,.int .i64 0,.int .i64 0]
@[go_sem] abbrev z_1 : List V := [.int .i64 0,.int .i64 0,.int .i64 0,.bool false,.str []]
@[go_sem] abbrev z_2 : List V := [.int .i64 0,.int .i64 0,.int .i64 0,.int .i64 0,.int .i64 0,.int .i64 0,.bool false,.str [],.slice 2 [],.str [],.bool false]
@[go_sem] abbrev z_3 : List V := [.int .i64 0,.int .i64 0,.slice 1 [],.int .i64 0,.str [],.str [],.slice 1 []]
@[go_sem] abbrev z_4 : List V := [.int .i64 0,.int .i64 0,.int .i64 0,.int .i64 0,.int .i64 0,.slice 1 [],.str []]
@[go_sem] abbrev z_5 : List V := [.str [],.slice 5 []]
@[go_sem] abbrev z_6 : List V := [.slice 17 [],.int .i64 0,.int .i64 0,.int .i64 0,.int .i64 0]
@[go_sem] abbrev z_7 : List V := [.int .i64 0,.int .i64 0,.int .i64 0,.int .i64 0,.bool false,.str [],.slice 2 [],.str [],.bool false]
@[go_sem] abbrev z_8 : List V := [.int .i64 0,.int .i64 0,.str [],.str [],.int .i64 0,.slice 2 [],.int .i64 0,.int .i64 0,.int .i64 0,.int .i64 0,.int .i64 0,.int .i64 0,.slice 11 [],.int .i64 0,.int .i64 0,.int .i64 0,.int .i64 0]
@[go_sem] abbrev z_9 : List V := [.int .i64 0,.slice 9 []]
@[go_sem] abbrev z_10 : List V := [.int .i64 0,.int .i64 0,.int .i64 0,.slice 1 [],.int .i64 0,.str [],.str [],.slice 1 [],.slice 36 []]
@[go_sem] abbrev z_11 : List V := [.int .i64 0,.nslice 9]
@[go_sem] abbrev z_12 : List V := [.int .i64 0,.int .i64 0,.int .i64 0]
@[go_sem] abbrev z_13 : List V := [.str [],.bool false]
@[go_sem] abbrev z_14 : List V := [.nslice 17,.int .i64 0,.int .i64 0,.int .i64 0,.int .i64 0]
@[go_sem] abbrev z_15 : List V := [.int .i64 0,.int .i64 0,.int .i64 0,.int .i64 0,.int .i64 0,.int .i64 0,.int .i64 0,.int .i64 0,.int .i64 0,.int .i64 0,.int .i64 0,.int .i64 0,.str [],.int .i64 0,.int .i64 0,.int .i64 0,.str [],.str [],.bool false,.str [],.int .i64 0,.int .i64 0,.int .i64 0,.str [],.int .i64 0,.int .i64 0,.int .i64 0,.int .i64 0,.int .i64 0,.bool false,.str [],.slice 2 [],.str [],.bool false,.slice 5 [],.slice 1 []]
@[go_sem] abbrev z_16 : List V := [.int .i64 0,.int .i64 0,.int .i64 0,.str [],.str [],.bool false,.str [],.int .i64 0,.int .i64 0,.int .i64 0,.str [],.int .i64 0]
@[go_sem] abbrev z_17 : List V := [.str [],.nslice 5]
@[go_sem] abbrev z_18 : List V := [.int .i64 0,.int .i64 0,.str [],.str [],.int .i64 0,.nslice 2,.int .i64 0,.int .i64 0,.int .i64 0,.int .i64 0,.int .i64 0,.int .i64 0,.nslice 11,.int .i64 0,.int .i64 0,.int .i64 0,.int .i64 0]
def c142 : C := rs 0 (qB 2 0<|qF 4<|qe) <| rs 5 (qb 2 2<|qc 167<|ya<|qm 1<|qc 168<|za 2<|ya<|qm 1<|qr 2 0<|qr 2 1<|qC 169 (ls [7,9,11])<|za 6<|qv 4<|qe) .ret
def F142 : F := mF 2 [.t 4] none c142
attribute [go_sem] c142 F142
def l149_0 : C := .loop [] [] [] [] (lq 13 (qm 6<|qm 0<|qh false<|qQ .lss 0<|qe) 16 0 <| sq (bk 1 (rs 19 (qm 0<|qm 6<|qi 5<|qg 0<|qJ 2<|qm 1<|q3 (.call (.k 142) .no none [.l 4,.l 5])<|qe) <| cd 25 (rs 26 (qm 0<|qm 6<|qi 5<|qJ 5<|qt 4 5 3<|qT 5<|qe) .ret) .skip)) <| r1 17 (qm 6<|qk .add 1<|qv 6<|qe))
def c149 : C := rs 0 (qG 4 z_0<|qF 5<|qe) <| i1 7 (qm 1<|qh true<|qK .eql 0<|qe) 9 (rs 10 (qm 0<|q1 (.iad 5 (.l 0) (ci 0))<|qJ 5<|qt 4 5 2<|qT 5<|qe) .ret) <| sq (rs 0 (qz 6 0<|qe) <| bk 0 l149_0) <| rs 30 (q1 (.build z_0 [])<|qt 4 5 0<|qF 5<|qe) .ret
def F149 : F := mF 2 [.cell 4 (some 5),.t 5] none c149
attribute [go_sem] c149 F149
def l153_0 : C := .loop [] [] [] [] (lq 11 (qm 5<|qm 0<|qh false<|qQ .lss 0<|qe) 14 0 <| sq (bk 1 (rt 17 (qm 0<|qm 5<|qi 5<|qJ 5<|qm 1<|qm 5<|qi 5<|qJ 5<|q3 (.eqa true [.s,.s,.i,.i,.i] (.l 3) (.l 7))<|qe) <| cd 25 (rs 0 (qF 4<|qe) .ret) .skip)) <| r1 15 (qm 5<|qk .add 1<|qv 5<|qe))
def c153 : C := rs 0 (qF 4<|qe) <| i1 6 (qm 0<|qh false<|qm 1<|qh false<|qQ .neq 1<|qe) 10 (rs 0 (qF 4<|qe) .ret) <| sq (rs 0 (qz 5 0<|qe) <| bk 0 l153_0) <| rs 0 (qT 4<|qe) .ret
def F153 : F := mF 2 [.t 4] none c153
attribute [go_sem] c153 F153
def c167 : C := rs 0 (qB 1 0<|qF 2<|qe) <| i1 3 (qr 1 0<|qh true<|qk .gtr 0<|ya<|qr 1 0<|qc 168<|qn<|zA 4<|qe) 12 (rs 0 (qF 2<|qe) .ret) <| i1 13 (qr 1 1<|qh true<|qK .eql 0<|qe) 16 (rs 0 (qT 2<|qe) .ret) <| rs 17 (qr 1 1<|qc 168<|ya<|qr 1 0<|qr 1 1<|qC 187 (ls [5,7])<|qk .eql (-1)<|za 3<|qv 2<|qe) .ret
def F167 : F := mF 1 [.t 2] none c167
attribute [go_sem] c167 F167
def l168_0 : C := .loop [] [] [] [] (lq 13 (qm 0<|qh true<|qK .gtr 0<|qe) 15 0 <| bk 1 (rs 17 (qm 0<|qc 188<|q2 16 (.mov (.l 1))<|qx 0<|qy 1<|qw 3<|qw 4<|qe) <| i1 21 (qm 3<|qc 189<|qN<|qe) 23 (rs 0 (qF 2<|qe) .ret) <| r1 24 (qm 0<|qm 4<|q1 (.sl true 0 (.l 0) (some (.l 1)) none)<|qv 0<|qe)))
def c168 : C := rs 0 (qF 2<|qe) <| i1 5 (qm 0<|qh true<|qk .eql 0<|yo<|qm 0<|qh true<|qk .gtr 16<|zO 3<|qe) 12 (rs 0 (qF 2<|qe) .ret) <| sq (bk 0 l168_0) <| rs 0 (qT 2<|qe) .ret
def F168 : F := mF 1 [.t 2] none c168
attribute [go_sem] c168 F168
def c169 : C := rs 0 (qF 6<|qe) <| rs 7 (qm 0<|qm 1<|qd 187<|qk .geq 0<|ya<|qm 2<|qh true<|qk .eql 0<|yo<|qm 0<|qm 2<|qd 187<|qk .lss 0<|y1 4<|qo 8<|za 4<|qv 6<|qe) .ret
def F169 : F := mF 3 [.t 6] none c169
attribute [go_sem] c169 F169
def c171 : C := rs 0 (qB 2 0<|qF 4<|qe) <| rs 5 (qb 2 2<|qc 186<|ya<|qm 1<|qc 170<|za 2<|ya<|qr 2 0<|qm 1<|qd 192<|qk .leq 0<|za 6<|ya<|qr 2 1<|q1 (.bin .eql (.l 15) (.c (.str [])))<|yo<|qm 1<|qr 2 1<|qC 192 (ls [18,20])<|qk .lss 0<|y1 13<|qo 17<|za 13<|qv 4<|qe) .ret
def F171 : F := mF 2 [.t 4] none c171
attribute [go_sem] c171 F171
def c186 : C := rs 0 (qB 1 0<|qF 2<|qe) <| i1 3 (qr 1 0<|q1 (.bin .neq (.l 1) (.c (.str [])))<|ya<|qr 1 0<|qc 170<|qn<|zA 3<|qe) 11 (rs 0 (qF 2<|qe) .ret) <| rs 12 (qr 1 1<|q1 (.bin .eql (.l 1) (.c (.str [])))<|yo<|qr 1 1<|qc 170<|ya<|qr 1 0<|qr 1 1<|qC 192 (ls [9,11])<|qk .lss 0<|y0 3<|qa 7<|zo 3<|qv 2<|qe) .ret
def F186 : F := mF 1 [.t 2] none c186
attribute [go_sem] c186 F186
def l187_0 : C := .loop [] [] [] [] (lq 12 (qm 7<|qm 5<|qh false<|qq .lss 0<|ya<|qm 7<|qm 6<|qh false<|qq .lss 5<|zA 4<|qe) 21 0 <| sq (bk 1 (i2 24 (qm 5<|qm 7<|qi 1<|qj<|qm 6<|qm 7<|qi 1<|qj<|qQ .lss 3<|qe) 32 (rs 0 (qz 4 (-1)<|qe) .ret) <| rt 33 (qm 5<|qm 7<|qi 1<|qj<|qm 6<|qm 7<|qi 1<|qj<|qQ .gtr 3<|qe) <| cd 41 (rs 0 (qz 4 1<|qe) .ret) .skip)) <| r1 22 (qm 7<|qk .add 1<|qv 7<|qe))
def c187 : C := rs 0 (qz 4 0<|qe) <| rs 8 (qm 0<|qc 195<|qm 1<|qc 195<|qV 5 1<|qw 6<|qe) <| sq (rs 0 (qz 7 0<|qe) <| bk 0 l187_0) <| i1 42 (qm 5<|qh false<|qm 6<|qh false<|qQ .lss 1<|qe) 46 (rs 0 (qz 4 (-1)<|qe) .ret) <| i1 47 (qm 5<|qh false<|qm 6<|qh false<|qQ .gtr 1<|qe) 51 (rs 0 (qz 4 1<|qe) .ret) <| rs 0 (qz 4 0<|qe) .ret
def F187 : F := mF 2 [.t 4] none c187
attribute [go_sem] c187 F187
def l188_0 : C := .loop [] [] [] [] (lq 46 (qm 7<|qm 5<|qQ .lss 0<|qe) 48 0 <| sq (bk 1 (i1 51 (qm 0<|qm 7<|q1 (.idx (.l 0) (.l 1))<|q1 (.bin .lss (.l 2) (.c (.int .u8 128)))<|yo<|qm 0<|qm 7<|q1 (.idx (.l 5) (.l 6))<|q1 (.bin .gtr (.l 7) (.c (.int .u8 191)))<|zO 4<|qe) 60 (rs 0 (qz 2 (-1)<|qz 3 1<|qe) .ret) <| r1 61 (qm 4<|q1 (.bin .mul (ci 64) (.l 0))<|qm 0<|qm 7<|q1 (.idx (.l 2) (.l 3))<|q1 (.conv (.int .i64) (.l 4))<|qq .add 1<|qk .sub 128<|qv 4<|qe))) <| r1 49 (qm 7<|qk .add 1<|qv 7<|qe))
def c188 : C := rs 0 (qz 2 0<|qz 3 0<|qe) <| rs 8 (qm 0<|q1 (.idx (.l 0) (ci 0))<|q1 (.conv (.int .i64) (.l 1))<|qv 4<|qe) <| i1 11 (qm 4<|qK .lss 128<|qe) 12 (rs 13 (qm 4<|qv 2<|qz 3 1<|qe) .ret) <| rs 0 (qz 5 0<|qz 6 0<|qe) <| sq (rs 14 (qm 4<|qk .geq 194<|ya<|qm 4<|qk .lss 224<|zA 2<|qe) <| cd 19 (r1 20 (qm 4<|qk .sub 192<|qz 5 2<|qz 6 128<|qV 4 1<|qe)) <| rs 22 (qm 4<|qk .geq 224<|ya<|qm 4<|qk .lss 240<|zA 2<|qe) <| cd 27 (r1 28 (qm 4<|qk .sub 224<|qz 5 3<|qz 6 2048<|qV 4 1<|qe)) <| rs 30 (qm 4<|qk .geq 240<|ya<|qm 4<|qk .lss 245<|zA 2<|qe) <| cd 35 (r1 36 (qm 4<|qk .sub 240<|qz 5 4<|qz 6 65536<|qV 4 1<|qe)) .skip) <| i1 38 (qm 5<|qk .eql 0<|yo<|qm 0<|qh true<|qm 5<|qq .lss 4<|zO 2<|qe) 45 (rs 0 (qz 2 (-1)<|qz 3 1<|qe) .ret) <| sq (rs 0 (qz 7 1<|qe) <| bk 0 l188_0) <| i1 69 (qm 4<|qm 6<|qq .lss 0<|yo<|qm 4<|qk .gtr 1114111<|zo 3<|yo<|qm 4<|qk .geq 55296<|ya<|qm 4<|qk .lss 57344<|y0 7<|qa 10<|zO 7<|qe) 83 (rs 0 (qz 2 (-1)<|qz 3 1<|qe) .ret) <| rs 84 (qm 4<|qm 5<|qw 2<|qw 3<|qe) .ret
def F188 : F := mF 1 [.t 2,.t 3] none c188
attribute [go_sem] c188 F188
def c189 : C := rs 0 (qF 2<|qe) <| rs 3 (qm 0<|qk .gtr 32<|ya<|qm 0<|qk .neq 127<|za 2<|ya<|qm 0<|qk .lss 128<|yo<|qm 0<|qk .gtr 159<|y1 6<|qo 9<|za 6<|qv 2<|qe) .ret
def F189 : F := mF 1 [.t 2] none c189
attribute [go_sem] c189 F189
def c191 : C := rs 0 (qF 4<|qe) <| rs 5 (qm 0<|q1 (.bin .geq (.l 0) (.c (.int .i32 33)))<|ya<|qm 0<|q1 (.bin .lss (.l 3) (.c (.int .i32 127)))<|yo<|qm 0<|q1 (.bin .gtr (.l 6) (.c (.int .i32 159)))<|y1 2<|qo 5<|za 2<|ya<|qm 0<|q1 (.bin .neq (.l 11) (.c (.int .i32 65533)))<|yo<|qm 1<|qk .eql 3<|y1 10<|qo 13<|za 10<|qv 4<|qe) .ret
def F191 : F := mF 2 [.t 4] none c191
attribute [go_sem] c191 F191
def l192_0 : C := .loop [] [] [] [] (lq 9 (qm 0<|q1 (.bin .neq (.l 0) (.c (.str [])))<|ya<|qm 1<|q1 (.bin .neq (.l 3) (.c (.str [])))<|zA 2<|qe) 14 0 <| bk 1 (rs 16 (qm 0<|qc 190<|q2 15 (.mov (.l 1))<|qx 0<|qy 1<|qw 5<|qw 6<|qe) <| rs 21 (qm 1<|qc 190<|q2 20 (.mov (.l 1))<|qx 0<|qy 1<|qw 7<|qw 8<|qe) <| sq (bk 2 (rs 26 (qm 5<|qm 7<|qq .lss 0<|qv 25<|qe) <| cd 25 (rs 0 (qz 4 (-1)<|qe) .ret) <| rs 30 (qm 5<|qm 7<|qq .gtr 0<|qv 29<|qe) <| cd 29 (rs 0 (qz 4 1<|qe) .ret) .skip)) <| r2 33 (qm 0<|qm 6<|q1 (.sl true 0 (.l 0) (some (.l 1)) none)<|qm 1<|qm 8<|q1 (.sl true 0 (.l 3) (some (.l 4)) none)<|qV 0 2<|qw 1<|qe)))
def c192 : C := rs 0 (qz 4 0<|qe) <| sq (bk 0 l192_0) <| sq (bk 3 (rs 40 (qm 0<|q1 (.bin .neq (.l 0) (.c (.str [])))<|qv 39<|qe) <| cd 39 (rs 0 (qz 4 1<|qe) .ret) <| rs 43 (qm 1<|q1 (.bin .neq (.l 0) (.c (.str [])))<|qv 42<|qe) <| cd 42 (rs 0 (qz 4 (-1)<|qe) .ret) .skip)) <| rs 0 (qz 4 0<|qe) .ret
def F192 : F := mF 2 [.t 4] none c192
attribute [go_sem] c192 F192
def l195_0 : C := .loop [] [] [] [] (lq 6 (qm 0<|qh true<|qK .gtr 0<|qe) 8 0 <| bk 1 (rs 10 (qm 0<|qc 188<|q2 9 (.mov (.l 1))<|qx 0<|qy 1<|qw 4<|qw 5<|qe) <| i1 14 (qm 4<|qK .lss 0<|qe) 15 (r1 0 (qz 4 65533<|qe)) <| rs 16 (qm 3<|qm 4<|q1 (.mks 1 1 [.int .i64 0] [(0,.l 1)])<|q1 (.app 3 1 (.l 0) (.l 2))<|qv 3<|qe) <| r1 20 (qm 0<|qm 5<|q1 (.sl true 0 (.l 0) (some (.l 1)) none)<|qv 0<|qe)))
def c195 : C := rs 0 (qS 2 1<|qe) <| rs 3 (q3 (.mko 1)<|qe) <| sq (bk 0 l195_0) <| rs 23 (qm 3<|qv 2<|qe) .ret
def F195 : F := mF 1 [.t 2] none c195
attribute [go_sem] c195 F195
def c3 : C := rs 0 (qB 3 1<|qS 4 5<|qz 5 0<|qe) <| sq (bk 0 (rs 7 (qm 0<|qc 7<|qn<|yo<|qb 3 5<|qc 22<|qn<|zo 3<|qv 6<|qe) <| cd 6 (rs 0 (qS 4 5<|qz 5 1<|qe) .ret) <| rt 16 (qm 0<|qh false<|qk .gtr 0<|ya<|qm 0<|qm 0<|qh false<|qk .sub 1<|q1 (.iad 5 (.l 4) (.l 7))<|qg 0<|qJ 3<|qR 3 0 3<|qC 15 (ls [10,12])<|qk .geq 0<|za 3<|qv 15<|qe) <| cd 15 (rs 0 (qS 4 5<|qz 5 9<|qe) .ret) <| rs 33 (qm 0<|qh false<|qk .eql 64<|qv 32<|qe) <| cd 32 (rs 0 (qS 4 5<|qz 5 6<|qe) .ret) .skip)) <| rt 36 (qm 0<|q1 (.call (.k 23) .no (some 0) [.l 0])<|qb 3 5<|q1 (.mks 5 1 z_1 [(0,.l 2)])<|q1 (.app 37 5 (.l 1) (.l 3))<|qv 4<|qz 5 0<|qe) .ret
def F3 : F := mF 2 [.t 4,.t 5] none c3
attribute [go_sem] c3 F3
def l4_0 : C := .loop [] [] [] [] (lq 7 (qm 3<|qm 0<|qh false<|qQ .lss 0<|qe) 10 0 <| sq (bk 1 (i1 13 (qm 0<|qm 3<|qi 5<|qJ 5<|qc 5<|qN<|qe) 18 (rs 0 (qF 2<|qe) .ret) <| rt 19 (qm 3<|qk .gtr 0<|ya<|qm 0<|qm 3<|qk .sub 1<|q1 (.iad 5 (.l 3) (.l 5))<|qg 0<|qJ 3<|qm 0<|qm 3<|qi 5<|qg 0<|qJ 3<|qC 6 (ls [8,13])<|qn<|zA 2<|qe) <| cd 35 (rs 0 (qF 2<|qe) .ret) .skip)) <| r1 11 (qm 3<|qk .add 1<|qv 3<|qe))
def c4 : C := rs 0 (qF 2<|qe) <| i1 4 (qm 0<|qh false<|qK .gtr 64<|qe) 6 (rs 0 (qF 2<|qe) .ret) <| sq (rs 0 (qz 3 0<|qe) <| bk 0 l4_0) <| rs 0 (qT 2<|qe) .ret
def F4 : F := mF 1 [.t 2] none c4
attribute [go_sem] c4 F4
def c5 : C := rs 0 (qB 1 0<|qF 2<|qe) <| i1 3 (qr 1 3<|ya<|qr 1 4<|qh true<|qk .gtr 0<|zA 2<|qe) 10 (rs 0 (qF 2<|qe) .ret) <| rs 11 (qR 1 0 3<|qc 24<|ya<|qr 1 4<|qh true<|qk .lss 17<|za 3<|qv 2<|qe) .ret
def F5 : F := mF 1 [.t 2] none c5
attribute [go_sem] c5 F5
def c6 : C := rs 0 (qB 2 0<|qB 3 1<|qF 4<|qe) <| i1 5 (qr 2 0<|qr 3 0<|qQ .neq 1<|qe) 9 (rs 10 (qr 2 0<|qr 3 0<|qq .lss 1<|qv 4<|qe) .ret) <| i1 15 (qr 2 1<|qr 3 1<|qQ .neq 1<|qe) 19 (rs 20 (qr 2 1<|qr 3 1<|qq .lss 1<|qv 4<|qe) .ret) <| rs 25 (qr 2 2<|qr 3 2<|qq .lss 1<|qv 4<|qe) .ret
def F6 : F := mF 2 [.t 4] none c6
attribute [go_sem] c6 F6
def l7_0 : C := .loop [] [] [4] [] (rs 8 (q3 (.bin .lss (.g 7) (.g 6))<|qe) <| sq (cd 8 .skip <| .exit 0) <| sq (bk 1 (rs 9 (qm 7<|q1 (.iad 5 (.g 5) (.g 7))<|qJ 5<|qG 4 z_1<|qV 3 0<|qs 4 5 3 2<|qe) <| rt 12 (qb 4 5<|qc 22<|qn<|yo<|qm 3<|qk .gtr 0<|ya<|qm 0<|qm 3<|qk .sub 1<|q1 (.iad 5 (.l 7) (.l 9))<|qg 0<|qJ 3<|qR 4 0 3<|qC 15 (ls [12,14])<|qk .geq 0<|y0 3<|qa 6<|zO 3<|qe) <| cd 30 (rs 0 (qF 2<|qe) .ret) .skip)) <| r1 31 (q1 (.bin .add (.g 7) (ci 1))<|qv 7<|qe))
def c7 : C := rs 0 (qF 2<|qe) <| sq (rs 5 (q3 (.mov (.g 0))<|qH false<|q3 (.mov (ci 0))<|qe) <| bk 0 l7_0) <| rs 32 (qm 0<|qh false<|qk .leq 64<|qv 2<|qe) .ret
def F7 : F := mF 1 [.t 2] none c7
attribute [go_sem] c7 F7
def l8_0 : C := .loop [] [] [] [] (lq 11 (qm 5<|qm 0<|qh false<|qQ .lss 0<|qe) 14 0 <| sq (bk 1 (rt 17 (qm 0<|qm 5<|qi 5<|qJ 5<|qm 1<|qm 5<|qi 5<|qJ 5<|q3 (.eqa true [.i,.i,.i,.b,.s] (.l 3) (.l 7))<|qe) <| cd 25 (rs 0 (qF 4<|qe) .ret) .skip)) <| r1 15 (qm 5<|qk .add 1<|qv 5<|qe))
def c8 : C := rs 0 (qF 4<|qe) <| i1 6 (qm 0<|qh false<|qm 1<|qh false<|qQ .neq 1<|qe) 10 (rs 0 (qF 4<|qe) .ret) <| sq (rs 0 (qz 5 0<|qe) <| bk 0 l8_0) <| rs 0 (qT 4<|qe) .ret
def F8 : F := mF 2 [.t 4] none c8
attribute [go_sem] c8 F8
def c15 : C := rs 0 (qB 2 0<|qB 3 1<|qz 4 0<|qe) <| rt 5 (qr 2 0<|qr 3 0<|qC 26 (ls [1,3])<|qr 2 1<|qr 3 1<|qC 26 (ls [6,8])<|qr 2 2<|qr 3 2<|qC 26 (ls [11,13])<|q1 (.mks 1 3 [.int .i64 0] [(0,.l 4),(1,.l 9),(2,.l 14)])<|qc 27<|qv 4<|qe) .ret
def F15 : F := mF 2 [.t 4] none c15
attribute [go_sem] c15 F15
def c22 : C := rs 0 (qB 1 0<|qF 2<|qe) <| rs 3 (qR 1 0 3<|qc 28<|ya<|qr 1 4<|qh true<|qk .leq 16<|za 3<|ya<|qr 1 3<|qn<|yo<|qr 1 4<|q1 (.bin .eql (.l 15) (.c (.str [])))<|y1 9<|qo 13<|za 9<|qv 2<|qe) .ret
def F22 : F := mF 1 [.t 2] none c22
attribute [go_sem] c22 F22
def c24 : C := rs 0 (qB 1 0<|qF 2<|qe) <| rs 3 (qr 1 0<|qk .geq 0<|ya<|qr 1 0<|qk .leq 1099511627776<|za 3<|ya<|qr 1 1<|qk .geq 0<|za 8<|ya<|qr 1 1<|qk .leq 1048576<|za 13<|ya<|qr 1 2<|qk .geq 0<|za 18<|ya<|qr 1 2<|qk .leq 255<|za 23<|qv 2<|qe) .ret
def F24 : F := mF 1 [.t 2] none c24
attribute [go_sem] c24 F24
def c26 : C := rs 0 (qz 4 0<|qe) <| rs 7 (qm 0<|qc 31<|qv 5<|qe) <| rs 9 (qm 1<|qc 31<|qv 6<|qe) <| i1 11 (q3 (.mov (.g 5))<|qe) 11 (i1 12 (q3 (.mov (.g 6))<|qe) 12 (rs 0 (qz 4 0<|qe) .ret) <| rs 0 (qz 4 (-1)<|qe) .ret) <| i1 13 (q3 (.mov (.g 6))<|qe) 13 (rs 0 (qz 4 1<|qe) .ret) <| i1 14 (qm 0<|qm 1<|qQ .lss 0<|qe) 16 (rs 0 (qz 4 (-1)<|qe) .ret) <| i1 17 (qm 0<|qm 1<|qQ .gtr 0<|qe) 19 (rs 0 (qz 4 1<|qe) .ret) <| rs 0 (qz 4 0<|qe) .ret
def F26 : F := mF 2 [.t 4] none c26
attribute [go_sem] c26 F26
def l27_0 : C := .loop [] [] [] [] (rs 9 (q3 (.bin .lss (.g 8) (.g 7))<|qe) <| sq (cd 9 .skip <| .exit 0) <| sq (bk 1 (rs 10 (q1 (.iad 1 (.g 6) (.g 8))<|qj<|qv 5<|qe) <| rs 12 (qm 5<|qm 3<|qQ .neq 0<|qe) <| cd 14 (rs 15 (qm 5<|qv 2<|qe) .ret) .skip)) <| r1 16 (q1 (.bin .add (.g 8) (ci 1))<|qv 8<|qe))
def c27 : C := rs 0 (qz 2 0<|qe) <| rs 0 (qz 3 0<|qe) <| sq (rs 6 (q3 (.mov (.g 0))<|qH false<|q3 (.mov (ci 0))<|qe) <| bk 0 l27_0) <| rs 17 (qm 3<|qv 2<|qe) .ret
def F27 : F := mF 1 [.t 2] none c27
attribute [go_sem] c27 F27
def c28 : C := rs 0 (qB 1 0<|qF 2<|qe) <| rs 3 (qr 1 0<|qC 32 [.l 1,ci 1099511627776]<|ya<|qr 1 1<|qC 32 [.l 5,ci 1048576]<|za 3<|ya<|qr 1 2<|qC 32 [.l 10,ci 255]<|za 8<|qv 2<|qe) .ret
def F28 : F := mF 1 [.t 2] none c28
attribute [go_sem] c28 F28
def c31 : C := rs 0 (qF 2<|qe) <| rs 3 (qm 0<|qm 0<|qq .neq 0<|qv 2<|qe) .ret
def F31 : F := mF 1 [.t 2] none c31
attribute [go_sem] c31 F31
def c32 : C := rs 0 (qF 4<|qe) <| rs 5 (qm 0<|qk .geq 0<|ya<|qm 0<|qm 1<|qq .leq 3<|za 2<|qv 4<|qe) .ret
def F32 : F := mF 2 [.t 4] none c32
attribute [go_sem] c32 F32
def l78_0 : C := .loop [] [] [] [] (lq 7 (qm 3<|qm 0<|qh false<|qQ .lss 0<|qe) 10 0 <| sq (bk 1 (rs 13 (qm 0<|qm 3<|qi 11<|qg 2<|qg 6<|qj<|qh false<|qK .gtr 100<|qe) <| cd 20 (rs 0 (qF 2<|qe) .ret) .skip)) <| r1 11 (qm 3<|qk .add 1<|qv 3<|qe))
def c78 : C := rs 0 (qF 2<|qe) <| i1 4 (qm 0<|qh false<|qK .gtr 40<|qe) 6 (rs 0 (qF 2<|qe) .ret) <| sq (rs 0 (qz 3 0<|qe) <| bk 0 l78_0) <| rs 0 (qT 2<|qe) .ret
def F78 : F := mF 1 [.t 2] none c78
attribute [go_sem] c78 F78
def l80_0 : C := .loop [] [] [] [] (lq 7 (qm 3<|qm 0<|qh false<|qQ .lss 0<|qe) 10 0 <| sq (bk 1 (i1 13 (qm 0<|qm 3<|qi 11<|qg 0<|qj<|qc 95<|qn<|yo<|qm 0<|qm 3<|qi 11<|qg 1<|qj<|qc 95<|qn<|zo 7<|yo<|qm 0<|qm 3<|qi 11<|qg 2<|qJ 9<|qc 96<|qn<|zO 16<|qe) 37 (rs 0 (qF 2<|qe) .ret) <| rt 38 (qm 3<|qk .gtr 0<|ya<|qm 0<|qm 3<|qk .sub 1<|q1 (.iad 11 (.l 3) (.l 5))<|qg 0<|qj<|qm 0<|qm 3<|qi 11<|qg 0<|qj<|qq .geq 8<|zA 2<|qe) <| cd 53 (rs 0 (qF 2<|qe) .ret) .skip)) <| r1 11 (qm 3<|qk .add 1<|qv 3<|qe))
def c80 : C := rs 0 (qF 2<|qe) <| i1 4 (qm 0<|qh false<|qK .gtr 8<|qe) 6 (rs 0 (qF 2<|qe) .ret) <| sq (rs 0 (qz 3 0<|qe) <| bk 0 l80_0) <| rs 0 (qT 2<|qe) .ret
def F80 : F := mF 1 [.t 2] none c80
attribute [go_sem] c80 F80
def l81_0 : C := .loop [] [] [5] [] (rs 9 (q3 (.bin .lss (.g 8) (.g 7))<|qe) <| sq (cd 9 .skip <| .exit 0) <| sq (bk 1 (rs 10 (q1 (.iad 11 (.g 6) (.g 8))<|qJ 11<|qG 5 z_2<|qs 5 11 2 1<|qe) <| i1 12 (qr 5 0<|qm 3<|qq .leq 1<|yo<|qr 5 0<|qc 97<|qn<|zo 4<|yo<|qr 5 1<|qc 97<|qn<|zo 10<|yo<|qR 5 2 9<|qc 98<|qn<|zO 16<|qe) 33 (rs 0 (qF 2<|qe) .ret) <| r1 34 (qr 5 0<|qv 3<|qe))) <| r1 36 (q1 (.bin .add (.g 8) (ci 1))<|qv 8<|qe))
def c81 : C := rs 0 (qF 2<|qe) <| rs 0 (qz 3 0<|qe) <| sq (rs 6 (q3 (.mov (.g 0))<|qH false<|q3 (.mov (ci 0))<|qe) <| bk 0 l81_0) <| rs 37 (qm 0<|qh false<|qk .leq 8<|qv 2<|qe) .ret
def F81 : F := mF 1 [.t 2] none c81
attribute [go_sem] c81 F81
def c82 : C := rs 0 (qz 6 0<|qe) <| i1 9 (qm 0<|qc 81<|qn<|yo<|qm 1<|qc 97<|qn<|zo 3<|yo<|qm 2<|qc 97<|qn<|zO 8<|qe) 21 (rs 0 (qz 6 0<|qe) .ret) <| rs 23 (qm 0<|qm 1<|qd 84<|q2 22 (.mov (.l 2))<|qx 0<|qy 1<|qG 7 z_2<|qs 7 11 6 4<|qV 8 5<|qe) <| sq (bk 0 (rs 29 (qm 8<|qn<|yo<|qm 2<|qr 7 1<|qq .gtr 3<|zo 2<|qv 28<|qe) <| cd 28 (rs 0 (qz 6 1<|qe) .ret) <| rs 38 (qm 2<|qr 7 1<|qq .eql 0<|qv 37<|qe) <| cd 37 (rs 0 (qz 6 2<|qe) .ret) .skip)) <| rs 0 (qz 6 3<|qe) .ret
def F82 : F := mF 3 [.t 6] none c82
attribute [go_sem] c82 F82
def c84 : C := rs 0 (qG 4 z_2<|qF 5<|qe) <| i1 8 (qm 0<|qc 81<|qN<|qe) 10 (rs 11 (q1 (.build z_2 [])<|qt 4 11 0<|qF 5<|qe) .ret) <| rs 13 (qm 0<|qm 1<|qd 100<|q2 12 (.mov (.l 2))<|qx 0<|qy 1<|qw 6<|qw 7<|qe) <| i1 18 (qm 7<|qN<|qe) 19 (rs 20 (q1 (.build z_2 [])<|qt 4 11 0<|qF 5<|qe) .ret) <| rs 21 (qm 0<|qm 6<|qi 11<|qJ 11<|qt 4 11 3<|qT 5<|qe) .ret
def F84 : F := mF 2 [.cell 4 (some 11),.t 5] none c84
attribute [go_sem] c84 F84
def l86_0 : C := .loop [] [] [] [] (lq 11 (qm 5<|qm 0<|qh false<|qQ .lss 0<|qe) 14 0 <| sq (bk 1 (rt 17 (qm 0<|qm 5<|qi 11<|qg 0<|qj<|qm 1<|qm 5<|qi 11<|qg 0<|qj<|qq .neq 4<|yo<|qm 0<|qm 5<|qi 11<|qg 1<|qj<|qm 1<|qm 5<|qi 11<|qg 1<|qj<|qq .neq 16<|zo 11<|yo<|qm 0<|qm 5<|qi 11<|qg 2<|qJ 9<|qm 1<|qm 5<|qi 11<|qg 2<|qJ 9<|qC 101 (ls [29,34])<|qn<|zO 24<|qe) <| cd 54 (rs 0 (qF 4<|qe) .ret) .skip)) <| r1 15 (qm 5<|qk .add 1<|qv 5<|qe))
def c86 : C := rs 0 (qF 4<|qe) <| i1 6 (qm 0<|qh false<|qm 1<|qh false<|qQ .neq 1<|qe) 10 (rs 0 (qF 4<|qe) .ret) <| sq (rs 0 (qz 5 0<|qe) <| bk 0 l86_0) <| rs 0 (qT 4<|qe) .ret
def F86 : F := mF 2 [.t 4] none c86
attribute [go_sem] c86 F86
def c88 : C := rs 0 (qB 3 1<|qS 4 11<|qz 5 0<|qe) <| i1 9 (qm 0<|qc 81<|qn<|yo<|qb 3 11<|q1 (.mks 11 1 z_2 [(0,.l 4)])<|qc 81<|qn<|zO 3<|qe) 17 (rs 0 (qS 4 11<|qz 5 1<|qe) .ret) <| rs 19 (qm 0<|qr 3 0<|qC 100 (ls [0,2])<|q2 18 (.mov (.l 3))<|qx 0<|qy 1<|qw 6<|qw 7<|qe) <| sq (bk 0 (rt 26 (qm 7<|ya<|qm 0<|qm 6<|qi 11<|qg 1<|qj<|qr 3 1<|qq .geq 6<|za 1<|qv 25<|qe) <| cd 25 (rs 0 (qS 4 11<|qz 5 9<|qe) .ret) <| rs 38 (qm 7<|qn<|ya<|qm 0<|qh false<|qk .eql 8<|za 2<|qv 37<|qe) <| cd 37 (rs 0 (qS 4 11<|qz 5 6<|qe) .ret) .skip)) <| rs 45 (qm 0<|q1 (.call (.k 102) .no (some 0) [.l 0])<|qv 8<|qe) <| i1 47 (q3 (.mov (.g 7))<|qe) 47 (rs 48 (qm 8<|qm 6<|qb 3 11<|q1 (.iad 11 (.l 0) (.l 1))<|q5 (.store (.e 46) 11 (.l 3) (.l 2))<|qe) <| rs 52 (qm 8<|qv 4<|qz 5 0<|qe) .ret) <| rs 53 (qm 8<|qm 6<|qb 3 11<|q1 (.mks 11 1 z_2 [(0,.l 2)])<|q1 (.ins 103 46 11 (.l 0) (.l 1) (.l 3))<|qv 4<|qz 5 0<|qe) .ret
def F88 : F := mF 2 [.t 4,.t 5] none c88
attribute [go_sem] c88 F88
def c95 : C := rs 0 (qF 2<|qe) <| rs 3 (qm 0<|qk .gtr 0<|ya<|qm 0<|qk .leq 1099511627776<|za 2<|qv 2<|qe) .ret
def F95 : F := mF 1 [.t 2] none c95
attribute [go_sem] c95 F95
def c96 : C := rs 0 (qB 1 0<|qF 2<|qe) <| i1 3 (qr 1 0<|qk .lss 0<|yo<|qr 1 0<|qk .gtr 16<|zo 3<|yo<|qr 1 5<|qh true<|qk .gtr 16<|zo 8<|yo<|qr 1 6<|qh false<|qk .gtr 0<|zo 14<|yo<|qr 1 7<|qh true<|qk .gtr 0<|zo 20<|yo<|qr 1 8<|zO 26<|qe) 32 (rs 0 (qF 2<|qe) .ret) <| rs 33 (qR 1 1 3<|qc 24<|qv 2<|qe) .ret
def F96 : F := mF 1 [.t 2] none c96
attribute [go_sem] c96 F96
def c97 : C := rs 0 (qF 2<|qe) <| rs 3 (qm 0<|qk .geq 1<|ya<|qm 0<|qk .leq 1099511627776<|za 2<|qv 2<|qe) .ret
def F97 : F := mF 1 [.t 2] none c97
attribute [go_sem] c97 F97
def c98 : C := rs 0 (qB 1 0<|qF 2<|qe) <| rs 3 (qr 1 0<|qk .geq 0<|ya<|qr 1 0<|qk .leq 16<|za 3<|ya<|qR 1 1 3<|qc 28<|za 8<|ya<|qr 1 5<|qh true<|qk .leq 16<|za 13<|ya<|qr 1 6<|qh false<|qk .eql 0<|za 19<|ya<|qr 1 7<|q1 (.bin .eql (.l 27) (.c (.str [])))<|za 25<|ya<|qr 1 8<|qn<|za 30<|qv 2<|qe) .ret
def F98 : F := mF 1 [.t 2] none c98
attribute [go_sem] c98 F98
def c100 : C := rs 0 (qB 3 1<|qz 4 0<|qF 5<|qe) <| rs 7 (qm 0<|q1 (.fn 105 [.g 3] [3])<|qd 106<|qv 6<|qe) <| i1 10 (qm 6<|qK .lss 0<|qe) 11 (rs 12 (qm 0<|qh false<|qv 4<|qF 5<|qe) .ret) <| rt 14 (qm 6<|qm 0<|qm 6<|qi 11<|qg 0<|qj<|q1 (.load (.v 3) none (.g 3))<|qq .eql 5<|qV 4 0<|qw 5<|qe) .ret
def F100 : F := mF 2 [.t 4,.t 5] none c100
attribute [go_sem] c100 F100
def l101_0 : C := .loop [] [] [] [] (lq 13 (qm 5<|qr 2 6<|qh false<|qQ .lss 0<|qe) 17 0 <| sq (bk 1 (rt 20 (qr 2 6<|qm 5<|qi 2<|qJ 2<|qr 3 6<|qm 5<|qi 2<|qJ 2<|q3 (.eqa true [.s,.s] (.l 4) (.l 9))<|qe) <| cd 30 (rs 0 (qF 4<|qe) .ret) .skip)) <| r1 18 (qm 5<|qk .add 1<|qv 5<|qe))
def c101 : C := rs 0 (qB 2 0<|qB 3 1<|qF 4<|qe) <| i1 6 (qr 2 6<|qh false<|qr 3 6<|qh false<|qQ .neq 2<|qe) 12 (rs 0 (qF 4<|qe) .ret) <| sq (rs 0 (qz 5 0<|qe) <| bk 0 l101_0) <| rs 31 (qr 2 0<|qr 3 0<|qq .eql 1<|ya<|qR 2 1 3<|qR 3 1 3<|q1 (.eqa false [.i,.i,.i] (.l 7) (.l 9))<|za 5<|ya<|qr 2 4<|qr 3 4<|q1 (.eqb false (.l 14) (.l 16))<|za 12<|ya<|qr 2 5<|qr 3 5<|qq .eql 21<|za 19<|ya<|qr 2 7<|qr 3 7<|qq .eql 28<|za 26<|ya<|qr 2 8<|qr 3 8<|q1 (.eqb false (.l 35) (.l 37))<|za 33<|qv 4<|qe) .ret
def F101 : F := mF 2 [.t 4] none c101
attribute [go_sem] c101 F101
def l106_0 : C := .loop [] [] [] [] (rs 9 (q3 (.bin .lss (.g 8) (.g 7))<|qe) <| sq (cd 9 .skip <| .exit 0) <| sq (bk 1 (rs 10 (qm 8<|qv 5<|qe) <| rs 11 (qm 1<|qm 0<|qm 5<|qi 11<|qJ 11<|q3 (.call (.v (.l 0)) .no none [.l 4])<|qe) <| cd 16 (rs 17 (qm 5<|qv 4<|qe) .ret) .skip)) <| r1 18 (q1 (.bin .add (.g 8) (ci 1))<|qv 8<|qe))
def c106 : C := rs 0 (qz 4 0<|qe) <| sq (rs 6 (qm 0<|qH false<|q3 (.mov (ci 0))<|qe) <| bk 0 l106_0) <| rs 0 (qz 4 (-1)<|qe) .ret
def F106 : F := mF 2 [.t 4] none c106
attribute [go_sem] c106 F106
def l37_0 : C := .loop [] [] [] [] (lq 46 (qm 3<|qr 1 6<|qh false<|qQ .lss 0<|qe) 50 0 <| sq (bk 1 (rt 53 (qr 1 2<|qr 1 6<|qm 3<|qi 1<|qj<|qC 62 (ls [1,6])<|qN<|qe) <| cd 61 (rs 0 (qF 2<|qe) .ret) .skip)) <| r1 51 (qm 3<|qk .add 1<|qv 3<|qe))
def c37 : C := rs 0 (qB 1 0<|qF 2<|qe) <| i1 4 (qr 1 0<|qk .lss 1<|yo<|qr 1 0<|qk .gtr 255<|zo 3<|yo<|qr 1 1<|qk .neq 0<|ya<|qr 1 1<|qc 60<|qn<|y0 8<|qa 12<|zo 8<|yo<|qr 1 3<|qk .neq 0<|ya<|qr 1 3<|qc 60<|qn<|y0 19<|qa 23<|zo 19<|yo<|qr 1 2<|qc 61<|qn<|zo 30<|yo<|qr 1 6<|qc 61<|qn<|zO 36<|qe) 45 (rs 0 (qF 2<|qe) .ret) <| sq (rs 0 (qz 3 0<|qe) <| bk 0 l37_0) <| i1 62 (qr 1 2<|qh false<|qk .gtr 0<|ya<|qr 1 2<|qr 1 0<|qC 62 (ls [6,8])<|qn<|zA 4<|qe) 73 (rs 0 (qF 2<|qe) .ret) <| i1 74 (qb 1 7<|qc 38<|qN<|qe) 76 (rs 77 (qr 1 6<|qh false<|qk .eql 0<|ya<|qr 1 4<|qr 1 5<|qq .eql 6<|za 4<|qv 2<|qe) .ret) <| i1 88 (qr 1 6<|qr 1 0<|qC 62 (ls [1,3])<|qN<|qe) 93 (rs 0 (qF 2<|qe) .ret) <| rs 94 (qb 1 7<|qc 42<|qn<|yo<|qr 1 4<|qr 1 5<|qq .eql 5<|zo 3<|qv 2<|qe) .ret
def F37 : F := mF 1 [.t 2] none c37
attribute [go_sem] c37 F37
def c38 : C := rs 0 (qB 1 0<|qF 2<|qe) <| rt 3 (qr 1 2<|qh false<|qk .gtr 0<|ya<|qr 1 2<|q1 (.iad 1 (.l 6) (ci 0))<|qj<|qr 1 0<|qq .eql 8<|za 4<|qv 2<|qe) .ret
def F38 : F := mF 1 [.t 2] none c38
attribute [go_sem] c38 F38
def c39 : C := rs 0 (qB 1 0<|qF 2<|qe) <| i1 3 (qr 1 0<|qk .lss 1<|yo<|qr 1 0<|qk .gtr 255<|zo 3<|yo<|qr 1 1<|qC 63 [.l 10,ci 0]<|qn<|zo 8<|yo<|qr 1 3<|qC 63 [.l 16,ci 0]<|qn<|zo 14<|yo<|qr 1 2<|qc 64<|qn<|zo 20<|yo<|qr 1 6<|qc 64<|qn<|zO 26<|qe) 34 (rs 0 (qF 2<|qe) .ret) <| i1 35 (qr 1 2<|qh false<|qk .gtr 0<|ya<|qr 1 2<|qr 1 0<|qC 65 (ls [6,8])<|qn<|zA 4<|qe) 46 (rs 0 (qF 2<|qe) .ret) <| i1 47 (qr 1 6<|q1 (.fn 66 [.g 1] [1])<|q3 (.call (.k 67) .no none [.l 1,.l 2])<|qe) 50 (rs 0 (qF 2<|qe) .ret) <| i1 51 (qb 1 7<|qc 68<|qN<|qe) 53 (rs 54 (qr 1 6<|qh false<|qk .eql 0<|ya<|qr 1 4<|qr 1 5<|qq .eql 6<|za 4<|qv 2<|qe) .ret) <| rs 65 (qr 1 6<|qr 1 0<|qC 65 (ls [1,3])<|ya<|qr 1 6<|qh false<|qr 1 2<|qh false<|qq .lss 8<|yo<|qr 1 4<|qr 1 5<|qq .eql 15<|y1 5<|qo 13<|za 5<|qv 2<|qe) .ret
def F39 : F := mF 1 [.t 2] none c39
attribute [go_sem] c39 F39
def c40 : C := rs 0 (qB 1 0<|qF 2<|qe) <| rs 3 (qb 1 7<|qc 39<|ya<|qb 1 7<|qc 68<|za 2<|qv 2<|qe) .ret
def F40 : F := mF 1 [.t 2] none c40
attribute [go_sem] c40 F40
def c41 : C := rs 0 (qB 1 0<|qF 2<|qe) <| rs 3 (qb 1 7<|qc 40<|ya<|qr 1 6<|qh false<|qr 1 2<|qh false<|qq .lss 5<|za 2<|qv 2<|qe) .ret
def F41 : F := mF 1 [.t 2] none c41
attribute [go_sem] c41 F41
def l42_0 : C := .loop [] [] [] [] (lq 4 (qm 3<|qr 1 2<|qh false<|qQ .lss 0<|qe) 8 0 <| sq (bk 1 (rt 11 (qr 1 6<|qr 1 2<|qm 3<|qi 1<|qj<|qC 62 (ls [1,6])<|qN<|qe) <| cd 19 (rs 0 (qF 2<|qe) .ret) .skip)) <| r1 9 (qm 3<|qk .add 1<|qv 3<|qe))
def c42 : C := rs 0 (qB 1 0<|qF 2<|qe) <| sq (rs 0 (qz 3 0<|qe) <| bk 0 l42_0) <| rs 0 (qT 2<|qe) .ret
def F42 : F := mF 1 [.t 2] none c42
attribute [go_sem] c42 F42
def c43 : C := rs 0 (qG 6 z_3<|qz 7 0<|qe) <| rs 9 (qm 0<|qm 1<|qc 69<|qm 2<|qm 2<|q1 (.build z_3 [(0,1,.l 0),(1,1,.c (.int .i64 1)),(2,1,.l 2),(3,1,.c (.int .i64 1)),(4,1,.l 3),(5,1,.l 4)])<|qG 8 z_3<|qs 8 7 6 5<|qe) <| i1 15 (qb 8 7<|q3 (.call (.k 68) .no none [.l 0])<|qe) 16 (r1 17 (qm 1<|qc 69<|qf 8 6<|qs 8 1 2 1<|qe)) <| i1 20 (qm 1<|qh false<|qk .eql 0<|yo<|qb 8 7<|qc 39<|qn<|zO 3<|qe) 27 (rs 28 (q1 (.build z_3 [])<|qt 6 7 0<|qz 7 1<|qe) .ret) <| rs 29 (qb 8 7<|qt 6 7 0<|qz 7 0<|qe) .ret
def F43 : F := mF 3 [.cell 6 (some 7),.t 7] none c43
attribute [go_sem] c43 F43
def c45 : C := rs 0 (qB 2 0<|qB 3 1<|qF 4<|qe) <| rs 5 (qr 2 0<|qr 3 0<|qq .eql 1<|ya<|qr 2 1<|qr 3 1<|qq .eql 7<|za 5<|ya<|qr 2 2<|qr 3 2<|qC 70 (ls [14,16])<|za 12<|ya<|qr 2 3<|qr 3 3<|qq .eql 21<|za 19<|ya<|qr 2 4<|qr 3 4<|qq .eql 28<|za 26<|ya<|qr 2 5<|qr 3 5<|qq .eql 35<|za 33<|ya<|qr 2 6<|qr 3 6<|qC 70 (ls [42,44])<|za 40<|qv 4<|qe) .ret
def F45 : F := mF 2 [.t 4] none c45
attribute [go_sem] c45 F45
def c47 : C := rs 0 (qB 2 0<|qG 4 z_3<|qS 5 7<|qz 6 0<|qe) <| sq (bk 0 (rs 8 (qb 2 7<|qc 39<|qn<|qv 7<|qe) <| cd 7 (rs 11 (q1 (.build z_3 [])<|qt 4 7 0<|qS 5 7<|qz 6 1<|qe) .ret) <| rs 13 (qb 2 7<|qc 68<|qn<|qv 12<|qe) <| cd 12 (rs 16 (q1 (.build z_3 [])<|qt 4 7 0<|qS 5 7<|qz 6 10<|qe) .ret) <| rs 18 (qb 2 7<|qc 41<|qv 17<|qe) <| cd 17 (rs 20 (q1 (.build z_3 [])<|qt 4 7 0<|qS 5 7<|qz 6 11<|qe) .ret) <| rs 22 (qr 2 3<|qk .eql 1099511627776<|qv 21<|qe) <| cd 21 (rs 25 (q1 (.build z_3 [])<|qt 4 7 0<|qS 5 7<|qz 6 6<|qe) .ret) .skip)) <| rs 26 (qr 2 3<|qk .add 1<|qf 2 3<|qs 2 1 3 2<|qe) <| rs 30 (qm 1<|qr 2 0<|q1 (.mks 1 1 [.int .i64 0] [(0,.l 2)])<|qf 2 5<|qs 2 1 4 0<|qf 2 6<|qs 2 1 6 3<|qe) <| rt 36 (qb 2 7<|qc 71<|qb 2 7<|qc 72<|qt 4 7 1<|qw 5<|qz 6 0<|qe) .ret
def F47 : F := mF 2 [.cell 4 (some 7),.t 5,.t 6] none c47
attribute [go_sem] c47 F47
def c51 : C := rs 0 (qB 1 0<|qS 2 7<|qe) <| i1 3 (qb 1 7<|qc 41<|qN<|qe) 5 (rs 0 (qS 2 7<|qe) .ret) <| rs 6 (qb 1 7<|qc 72<|qv 2<|qe) .ret
def F51 : F := mF 1 [.t 2] none c51
attribute [go_sem] c51 F51
def l52_0 : C := .loop [] [] [] [] (lq 5 (qm 4<|qr 1 2<|qh false<|qQ .lss 0<|qe) 9 0 <| sq (bk 1 (rt 12 (qr 1 6<|qr 1 2<|qm 4<|qi 1<|qj<|qC 62 (ls [1,6])<|qN<|qe) <| cd 20 (r2 21 (qm 3<|qr 1 0<|qr 1 2<|qm 4<|qi 1<|qj<|qr 1 1<|qr 1 3<|qr 1 2<|qr 1 5<|q1 (.build z_4 [(0,1,.c (.int .i64 1)),(1,1,.l 2),(2,1,.l 7),(3,1,.l 9),(4,1,.l 11),(5,1,.l 13),(6,1,.l 15)])<|q1 (.mks 7 1 z_4 [(0,.l 16)])<|q1 (.app 3 7 (.l 0) (.l 17))<|qv 3<|qe)) .skip)) <| r1 10 (qm 4<|qk .add 1<|qv 4<|qe))
def c52 : C := rs 0 (qB 1 0<|qS 2 7<|qe) <| rs 3 (q3 (.mko 7)<|qe) <| sq (rs 0 (qz 4 0<|qe) <| bk 0 l52_0) <| rs 40 (qm 3<|qv 2<|qe) .ret
def F52 : F := mF 1 [.t 2] none c52
attribute [go_sem] c52 F52
def c60 : C := rs 0 (qF 2<|qe) <| rs 3 (qm 0<|qk .geq 1<|ya<|qm 0<|qk .leq 1099511627776<|za 2<|qv 2<|qe) .ret
def F60 : F := mF 1 [.t 2] none c60
attribute [go_sem] c60 F60
def l61_1 : C := .loop [] [] [] [] (lq 26 (qm 4<|qm 3<|qQ .lss 0<|qe) 28 2 <| sq (bk 3 (rt 31 (qm 0<|qm 4<|qi 1<|qj<|qm 0<|qm 3<|qi 1<|qj<|qQ .eql 3<|qe) <| cd 39 (rs 0 (qF 2<|qe) .ret) .skip)) <| r1 29 (qm 4<|qk .add 1<|qv 4<|qe))
def l61_0 : C := .loop [] [] [] [] (lq 8 (qm 3<|qm 0<|qh false<|qQ .lss 0<|qe) 11 0 <| sq (bk 1 (i1 14 (qm 0<|qm 3<|qi 1<|qj<|qk .lss 1<|yo<|qm 0<|qm 3<|qi 1<|qj<|qk .gtr 255<|zO 5<|qe) 25 (rs 0 (qF 2<|qe) .ret) <| rs 0 (qz 4 0<|qe) <| bk 2 l61_1)) <| r1 12 (qm 3<|qk .add 1<|qv 3<|qe))
def c61 : C := rs 0 (qF 2<|qe) <| i1 5 (qm 0<|qh false<|qK .gtr 8<|qe) 7 (rs 0 (qF 2<|qe) .ret) <| sq (rs 0 (qz 3 0<|qe) <| bk 0 l61_0) <| rs 0 (qT 2<|qe) .ret
def F61 : F := mF 1 [.t 2] none c61
attribute [go_sem] c61 F61
def l62_0 : C := .loop [] [] [] [] (lq 6 (qm 5<|qm 0<|qh false<|qQ .lss 0<|qe) 9 0 <| sq (bk 1 (rs 12 (qm 0<|qm 5<|qi 1<|qj<|qm 1<|qQ .eql 3<|qe) <| cd 17 (rs 0 (qT 4<|qe) .ret) .skip)) <| r1 10 (qm 5<|qk .add 1<|qv 5<|qe))
def c62 : C := rs 0 (qF 4<|qe) <| sq (rs 0 (qz 5 0<|qe) <| bk 0 l62_0) <| rs 0 (qF 4<|qe) .ret
def F62 : F := mF 2 [.t 4] none c62
attribute [go_sem] c62 F62
def c63 : C := rs 0 (qF 4<|qe) <| rs 5 (qm 0<|qm 1<|qq .geq 0<|ya<|qm 0<|qk .leq 1099511627776<|za 3<|qv 4<|qe) .ret
def F63 : F := mF 2 [.t 4] none c63
attribute [go_sem] c63 F63
def l64_0 : C := .loop [] [] [] [] (rs 8 (q3 (.bin .lss (.g 7) (.g 6))<|qe) <| sq (cd 8 .skip <| .exit 0) <| sq (bk 1 (rs 9 (qm 7<|q1 (.iad 1 (.g 5) (.g 7))<|qj<|qV 3 0<|qw 4<|qe) <| rs 12 (qm 4<|qk .lss 1<|yo<|qm 4<|qk .gtr 255<|zo 2<|yo<|qm 0<|qm 3<|q1 (.sl false 1 (.l 7) none (some (.l 8)))<|qm 4<|qd 65<|zO 6<|qe) <| cd 24 (rs 0 (qF 2<|qe) .ret) .skip)) <| r1 25 (q1 (.bin .add (.g 7) (ci 1))<|qv 7<|qe))
def c64 : C := rs 0 (qF 2<|qe) <| sq (rs 5 (q3 (.mov (.g 0))<|qH false<|q3 (.mov (ci 0))<|qe) <| bk 0 l64_0) <| rs 26 (qm 0<|qh false<|qk .leq 8<|qv 2<|qe) .ret
def F64 : F := mF 1 [.t 2] none c64
attribute [go_sem] c64 F64
def c65 : C := rs 0 (qF 4<|qe) <| rs 5 (qm 0<|qm 1<|qd 75<|qk .geq 0<|qv 4<|qe) .ret
def F65 : F := mF 2 [.t 4] none c65
attribute [go_sem] c65 F65
def c66 : C := rs 0 (qF 3<|qe) <| rs 4 (qf 1 2<|qj<|qm 0<|qd 65<|qn<|qv 3<|qe) .ret
def F66 : F := mF 2 [.t 3] none c66
attribute [go_sem] c66 F66
def c67 : C := rs 0 (qF 4<|qe) <| rs 5 (qm 0<|qm 1<|qd 76<|qk .geq 0<|qv 4<|qe) .ret
def F67 : F := mF 2 [.t 4] none c67
attribute [go_sem] c67 F67
def c68 : C := rs 0 (qB 1 0<|qF 2<|qe) <| rt 3 (qr 1 2<|qh false<|qk .gtr 0<|ya<|qr 1 2<|q1 (.iad 1 (.l 6) (ci 0))<|qj<|qr 1 0<|qq .eql 8<|za 4<|qv 2<|qe) .ret
def F68 : F := mF 1 [.t 2] none c68
attribute [go_sem] c68 F68
def l70_0 : C := .loop [] [] [] [] (lq 11 (qm 5<|qm 0<|qh false<|qQ .lss 0<|qe) 14 0 <| sq (bk 1 (rt 17 (qm 0<|qm 5<|qi 1<|qj<|qm 1<|qm 5<|qi 1<|qj<|qQ .neq 3<|qe) <| cd 25 (rs 0 (qF 4<|qe) .ret) .skip)) <| r1 15 (qm 5<|qk .add 1<|qv 5<|qe))
def c70 : C := rs 0 (qF 4<|qe) <| i1 6 (qm 0<|qh false<|qm 1<|qh false<|qQ .neq 1<|qe) 10 (rs 0 (qF 4<|qe) .ret) <| sq (rs 0 (qz 5 0<|qe) <| bk 0 l70_0) <| rs 0 (qT 4<|qe) .ret
def F70 : F := mF 2 [.t 4] none c70
attribute [go_sem] c70 F70
def c71 : C := rs 0 (qB 1 0<|qG 2 z_3<|qe) <| i1 3 (qr 1 6<|qh false<|qr 1 2<|qh false<|qQ .eql 2<|qe) 9 (r1 10 (qr 1 5<|qf 1 4<|qs 1 1 2 1<|qe)) <| rs 13 (qb 1 7<|qt 2 7 0<|qe) .ret
def F71 : F := mF 1 [.cell 2 (some 7)] none c71
attribute [go_sem] c71 F71
def l72_0 : C := .loop [] [] [] [] (rs 10 (q3 (.bin .lss (.g 9) (.g 8))<|qe) <| sq (cd 10 .skip <| .exit 0) <| sq (bk 1 (rs 11 (q1 (.iad 1 (.g 7) (.g 9))<|qj<|qv 5<|qe) <| rs 13 (qr 1 6<|qm 5<|qd 65<|qN<|qe) <| cd 17 (r2 18 (qm 3<|qr 1 0<|qm 5<|qr 1 1<|qr 1 3<|qr 1 2<|qc 69<|qr 1 5<|q1 (.build z_4 [(0,1,.c (.int .i64 1)),(1,1,.l 2),(2,1,.l 3),(3,1,.l 5),(4,1,.l 7),(5,1,.l 10),(6,1,.l 12)])<|q1 (.mks 7 1 z_4 [(0,.l 13)])<|q1 (.app 3 7 (.l 0) (.l 14))<|qv 3<|qe)) .skip)) <| r1 34 (q1 (.bin .add (.g 9) (ci 1))<|qv 9<|qe))
def c72 : C := rs 0 (qB 1 0<|qS 2 7<|qe) <| rs 3 (q3 (.mko 7)<|qe) <| sq (rs 6 (qf 1 2<|q3 (.load (.v 1) none (.l 0))<|qH false<|q3 (.mov (ci 0))<|qe) <| bk 0 l72_0) <| rs 35 (qm 3<|qv 2<|qe) .ret
def F72 : F := mF 1 [.t 2] none c72
attribute [go_sem] c72 F72
def l75_0 : C := .loop [] [] [] [] (rs 9 (q3 (.bin .lss (.g 8) (.g 7))<|qe) <| sq (cd 9 .skip <| .exit 0) <| sq (bk 1 (rs 10 (qm 8<|qv 5<|qe) <| rs 11 (qm 1<|qm 0<|qm 5<|qi 1<|qj<|qQ .eql 0<|qe) <| cd 16 (rs 17 (qm 5<|qv 4<|qe) .ret) .skip)) <| r1 18 (q1 (.bin .add (.g 8) (ci 1))<|qv 8<|qe))
def c75 : C := rs 0 (qz 4 0<|qe) <| sq (rs 6 (qm 0<|qH false<|q3 (.mov (ci 0))<|qe) <| bk 0 l75_0) <| rs 0 (qz 4 (-1)<|qe) .ret
def F75 : F := mF 2 [.t 4] none c75
attribute [go_sem] c75 F75
def l76_0 : C := .loop [] [] [] [] (rs 9 (q3 (.bin .lss (.g 8) (.g 7))<|qe) <| sq (cd 9 .skip <| .exit 0) <| sq (bk 1 (rs 10 (qm 8<|qv 5<|qe) <| rs 11 (qm 1<|qm 0<|qm 5<|qi 1<|qj<|q3 (.call (.v (.l 0)) .no none [.l 4])<|qe) <| cd 16 (rs 17 (qm 5<|qv 4<|qe) .ret) .skip)) <| r1 18 (q1 (.bin .add (.g 8) (ci 1))<|qv 8<|qe))
def c76 : C := rs 0 (qz 4 0<|qe) <| sq (rs 6 (qm 0<|qH false<|q3 (.mov (ci 0))<|qe) <| bk 0 l76_0) <| rs 0 (qz 4 (-1)<|qe) .ret
def F76 : F := mF 2 [.t 4] none c76
attribute [go_sem] c76 F76
def l198_0 : C := .loop [] [] [] [] (lq 7 (qm 3<|qm 0<|qh false<|qQ .lss 0<|qe) 10 0 <| sq (bk 1 (rs 13 (qm 0<|qm 3<|qi 2<|qg 1<|qj<|qh false<|qk .gtr 80<|yo<|qm 0<|qm 3<|qi 2<|qg 0<|qj<|qh true<|qk .gtr 100<|zO 7<|qe) <| cd 28 (rs 0 (qF 2<|qe) .ret) .skip)) <| r1 11 (qm 3<|qk .add 1<|qv 3<|qe))
def c198 : C := rs 0 (qF 2<|qe) <| i1 4 (qm 0<|qh false<|qK .gtr 80<|qe) 6 (rs 0 (qF 2<|qe) .ret) <| sq (rs 0 (qz 3 0<|qe) <| bk 0 l198_0) <| rs 0 (qT 2<|qe) .ret
def F198 : F := mF 1 [.t 2] none c198
attribute [go_sem] c198 F198
def c200 : C := rs 0 (qB 5 2<|qS 6 2<|qz 7 0<|qe) <| i1 14 (qm 0<|qc 203<|qn<|yo<|qm 1<|qc 170<|qn<|zO 3<|qe) 21 (rs 0 (qS 6 2<|qz 7 1<|qe) .ret) <| rs 23 (qm 0<|qm 1<|qd 220<|q2 22 (.mov (.l 2))<|qx 0<|qy 1<|qw 8<|qw 9<|qe) <| rs 0 (qS 10 5<|qe) <| i1 28 (q3 (.mov (.g 9))<|qe) 28 (r1 29 (qm 0<|qm 8<|qi 2<|qg 1<|qj<|qv 10<|qe)) <| rs 35 (qm 10<|qb 5 5<|qd 3<|q2 34 (.mov (.l 2))<|qx 0<|qy 1<|qw 11<|qw 12<|qe) <| sq (bk 0 (rs 41 (qm 12<|qk .neq 0<|qv 40<|qe) <| cd 40 (rs 43 (qm 12<|qS 6 2<|qw 7<|qe) .ret) <| rs 45 (qm 9<|qn<|ya<|qm 0<|qh false<|qk .eql 64<|za 2<|qv 44<|qe) <| cd 44 (rs 0 (qS 6 2<|qz 7 6<|qe) .ret) .skip)) <| rs 52 (qm 0<|q1 (.call (.k 221) .no (some 0) [.l 0])<|qv 13<|qe) <| i1 54 (qm 9<|qN<|qe) 55 (r1 56 (qm 13<|qm 8<|qm 1<|q1 (.build z_5 [(0,1,.l 2)])<|q1 (.mks 2 1 z_5 [(0,.l 3)])<|q1 (.ins 222 53 2 (.l 0) (.l 1) (.l 4))<|qv 13<|qe)) <| rs 62 (qm 13<|qm 8<|qm 11<|q1 (.iad 2 (.l 0) (.l 1))<|qg 1<|q5 (.store (.e 53) 1 (.l 4) (.l 2))<|qe) <| rs 67 (qm 13<|qv 6<|qz 7 0<|qe) .ret
def F200 : F := mF 3 [.t 6,.t 7] none c200
attribute [go_sem] c200 F200
def l202_0 : C := .loop [] [] [] [] (lq 11 (qm 5<|qm 0<|qh false<|qQ .lss 0<|qe) 14 0 <| sq (bk 1 (rt 17 (qm 0<|qm 5<|qi 2<|qg 0<|qj<|qm 1<|qm 5<|qi 2<|qg 0<|qj<|qq .neq 4<|yo<|qm 0<|qm 5<|qi 2<|qg 1<|qj<|qm 1<|qm 5<|qi 2<|qg 1<|qj<|qC 8 (ls [16,21])<|qn<|zO 11<|qe) <| cd 41 (rs 0 (qF 4<|qe) .ret) .skip)) <| r1 15 (qm 5<|qk .add 1<|qv 5<|qe))
def c202 : C := rs 0 (qF 4<|qe) <| i1 6 (qm 0<|qh false<|qm 1<|qh false<|qQ .neq 1<|qe) 10 (rs 0 (qF 4<|qe) .ret) <| sq (rs 0 (qz 5 0<|qe) <| bk 0 l202_0) <| rs 0 (qT 4<|qe) .ret
def F202 : F := mF 2 [.t 4] none c202
attribute [go_sem] c202 F202
def l203_0 : C := .loop [] [] [4] [] (rs 8 (q3 (.bin .lss (.g 7) (.g 6))<|qe) <| sq (cd 8 .skip <| .exit 0) <| sq (bk 1 (rs 9 (qm 7<|q1 (.iad 2 (.g 5) (.g 7))<|qJ 2<|qG 4 z_5<|qV 3 0<|qs 4 2 3 2<|qe) <| rt 12 (qr 4 0<|qc 170<|qn<|yo<|qr 4 1<|qc 7<|qn<|zo 4<|yo<|qr 4 1<|qh false<|qk .eql 0<|zo 10<|yo<|qm 3<|qk .gtr 0<|ya<|qm 0<|qm 3<|qk .sub 1<|q1 (.iad 2 (.l 20) (.l 22))<|qg 0<|qj<|qr 4 0<|qC 192 (ls [25,27])<|qk .geq 0<|y0 16<|qa 19<|zO 16<|qe) <| cd 43 (rs 0 (qF 2<|qe) .ret) .skip)) <| r1 44 (q1 (.bin .add (.g 7) (ci 1))<|qv 7<|qe))
def c203 : C := rs 0 (qF 2<|qe) <| sq (rs 5 (q3 (.mov (.g 0))<|qH false<|q3 (.mov (ci 0))<|qe) <| bk 0 l203_0) <| rs 45 (qm 0<|qh false<|qk .leq 64<|qv 2<|qe) .ret
def F203 : F := mF 1 [.t 2] none c203
attribute [go_sem] c203 F203
def l204_0 : C := .loop [] [] [] [] (lq 7 (qm 3<|qm 0<|qh false<|qQ .lss 0<|qe) 10 0 <| sq (bk 1 (i1 13 (qm 0<|qm 3<|qi 2<|qg 0<|qj<|qc 168<|qn<|yo<|qm 0<|qm 3<|qi 2<|qg 1<|qj<|qh false<|qk .eql 0<|zo 7<|yo<|qm 0<|qm 3<|qi 2<|qg 1<|qj<|qc 4<|qn<|zO 16<|qe) 37 (rs 0 (qF 2<|qe) .ret) <| rt 38 (qm 3<|qk .gtr 0<|ya<|qm 0<|qm 3<|qk .sub 1<|q1 (.iad 2 (.l 3) (.l 5))<|qg 0<|qj<|qm 0<|qm 3<|qi 2<|qg 0<|qj<|qC 187 (ls [8,13])<|qk .neq (-1)<|zA 2<|qe) <| cd 54 (rs 0 (qF 2<|qe) .ret) .skip)) <| r1 11 (qm 3<|qk .add 1<|qv 3<|qe))
def c204 : C := rs 0 (qF 2<|qe) <| i1 4 (qm 0<|qh false<|qK .gtr 64<|qe) 6 (rs 0 (qF 2<|qe) .ret) <| sq (rs 0 (qz 3 0<|qe) <| bk 0 l204_0) <| rs 0 (qT 2<|qe) .ret
def F204 : F := mF 1 [.t 2] none c204
attribute [go_sem] c204 F204
def c220 : C := rs 0 (qz 4 0<|qF 5<|qe) <| rs 6 (qm 0<|qm 1<|qC 225 [.l 0,.l 1,.f 226]<|qx 0<|qy 1<|qw 4<|qw 5<|qe) .ret
def F220 : F := mF 2 [.t 4,.t 5] none c220
attribute [go_sem] c220 F220
def l221_0 : C := .loop [] [] [] [] (rs 10 (q3 (.bin .lss (.g 9) (.g 8))<|qe) <| sq (cd 10 .skip <| .exit 0) <| sq (bk 1 (rs 11 (qm 9<|qv 4<|qe) <| r1 12 (qm 3<|qm 4<|qm 3<|qm 4<|qi 2<|qg 1<|q1 (.load (.e 6) none (.l 5))<|qc 23<|q1 (.iad 2 (.l 0) (.l 1))<|qg 1<|q5 (.store (.e 6) 1 (.l 9) (.l 7))<|qe))) <| r1 22 (q1 (.bin .add (.g 9) (ci 1))<|qv 9<|qe))
def c221 : C := rs 0 (qS 2 2<|qe) <| rs 5 (qm 0<|q1 (.call (.k 227) .no (some 0) [.l 0])<|qv 3<|qe) <| sq (rs 7 (qm 3<|qH false<|q3 (.mov (ci 0))<|qe) <| bk 0 l221_0) <| rs 23 (qm 3<|qv 2<|qe) .ret
def F221 : F := mF 1 [.t 2] (some 0) c221
attribute [go_sem] c221 F221
def l225_0 : C := .loop [] [] [] [] (lq 15 (qm 9<|qm 10<|qQ .lss 0<|qe) 17 0 <| bk 1 (rs 18 (qm 9<|qm 10<|qq .add 0<|q1 (.conv (.int .u64) (.l 2))<|q1 (.sh .shr (.l 3) (.c (.int .u64 1)))<|q1 (.conv (.int .i64) (.l 4))<|qv 11<|qe) <| rs 24 (qm 2<|qm 0<|qm 11<|qi 2<|qJ 2<|qm 1<|q1 (.call (.v (.l 0)) .no none [.l 4,.l 5])<|qK .lss 0<|qe) <| cd 31 (r1 32 (qm 11<|qk .add 1<|qv 9<|qe)) <| r1 34 (qm 11<|qv 10<|qe)))
def c225 : C := rs 0 (qz 6 0<|qF 7<|qe) <| rs 12 (qm 0<|qh false<|qv 8<|qe) <| rs 14 (qm 8<|qz 9 0<|qw 10<|qe) <| sq (bk 0 l225_0) <| rs 35 (qm 9<|qm 9<|qm 8<|qq .lss 1<|ya<|qm 2<|qm 0<|qm 9<|qi 2<|qJ 2<|qm 1<|q1 (.call (.v (.l 5)) .no none [.l 9,.l 10])<|qk .eql 0<|za 4<|qV 6 0<|qw 7<|qe) .ret
def F225 : F := mF 3 [.t 6,.t 7] none c225
attribute [go_sem] c225 F225
def l238_0 : C := .loop [] [] [] [] (lq 8 (qm 3<|qr 1 0<|qh false<|qQ .lss 0<|qe) 12 0 <| sq (bk 1 (rs 15 (qr 1 0<|qm 3<|qi 17<|qJ 17<|qc 252<|qN<|qe) <| cd 21 (rs 0 (qF 2<|qe) .ret) .skip)) <| r1 13 (qm 3<|qk .add 1<|qv 3<|qe))
def c238 : C := rs 0 (qB 1 0<|qF 2<|qe) <| i1 4 (qr 1 0<|qh false<|qK .gtr 12<|qe) 7 (rs 0 (qF 2<|qe) .ret) <| sq (rs 0 (qz 3 0<|qe) <| bk 0 l238_0) <| rs 0 (qT 2<|qe) .ret
def F238 : F := mF 1 [.t 2] none c238
attribute [go_sem] c238 F238
def c240 : C := rs 0 (qB 6 0<|qB 9 3<|qB 10 4<|qG 12 z_6<|qG 13 z_7<|qe) <| i1 16 (qb 6 5<|qc 249<|qn<|yo<|qm 1<|qm 2<|q1 (.mks 1 2 [.int .i64 0] [(0,.l 4),(1,.l 5)])<|qC 284 [ci 1,.l 6]<|qn<|zo 3<|yo<|qm 5<|q1 (.mks 1 1 [.int .i64 0] [(0,.l 11)])<|qC 284 [ci 0,.l 12]<|qn<|zo 10<|yo<|qb 10 3<|qc 28<|qn<|zo 16<|yo<|qb 9 12<|qc 285<|qn<|zO 21<|qe) 41 (rt 42 (qb 6 5<|qC 286 [ci 1]<|qt 12 5 0<|qt 13 9 1<|qe) .ret) <| rs 44 (qb 6 5<|qm 1<|qd 287<|qG 14 z_8<|qs 14 17 3 2<|qe) <| rs 47 (qr 9 3<|q1 (.bin .eql (.l 1) (.c (.str [])))<|ya<|qf 14 2<|qg 0<|ql 14<|q1 (.bin .eql (.l 6) (.c (.str [])))<|za 3<|yo<|qR 14 2 2<|qr 9 3<|qC 171 (ls [11,13])<|zo 9<|qv 15<|qe) <| sq (bk 0 (rs 64 (qr 14 0<|qk .eql 0<|yo<|qr 14 1<|qm 2<|qq .neq 5<|zo 3<|yo<|qm 15<|qn<|zo 9<|qv 63<|qe) <| cd 63 (rt 77 (qb 6 5<|qC 286 [ci 10]<|qt 12 5 0<|qt 13 9 1<|qe) .ret) <| rs 80 (qr 14 4<|qk .neq 1<|yo<|qb 9 12<|qc 288<|ya<|qr 14 13<|qk .neq 0<|y0 3<|qa 6<|zo 3<|qv 79<|qe) <| cd 79 (rt 92 (qb 6 5<|qC 286 [ci 11]<|qt 12 5 0<|qt 13 9 1<|qe) .ret) <| rs 95 (qb 9 12<|qc 288<|qv 94<|qe) <| cd 94 (rs 97 (qb 6 5<|qb 14 17<|qb 9 12<|qb 10 3<|qC 289 (ls [0,1,2,3])<|qx 0<|qy 1<|qt 12 5 5<|qt 13 9 6<|qe) .ret) <| rs 105 (qr 9 2<|qk .eql 4<|qv 104<|qe) <| cd 104 (rt 108 (qb 6 5<|qb 6 5<|qb 14 17<|qr 9 3<|qC 290 (ls [1,2,4])<|qt 12 5 0<|qt 13 9 5<|qe) .ret) .skip)) <| rs 114 (qb 6 5<|qb 14 17<|qb 9 12<|qm 5<|qC 291 (ls [0,1,2,3])<|qx 0<|qy 1<|qt 12 5 5<|qt 13 9 6<|qe) .ret
def F240 : F := mF 6 [.cell 12 (some 5),.cell 13 (some 9)] none c240
attribute [go_sem] c240 F240
def l242_0 : C := .loop [] [] [] [] (lq 27 (qm 5<|qr 2 0<|qh false<|qQ .lss 0<|qe) 31 0 <| sq (bk 1 (rt 34 (qr 2 0<|qm 5<|qi 17<|qJ 17<|qr 3 0<|qm 5<|qi 17<|qJ 17<|qC 250 (ls [4,9])<|qN<|qe) <| cd 45 (rs 0 (qF 4<|qe) .ret) .skip)) <| r1 32 (qm 5<|qk .add 1<|qv 5<|qe))
def c242 : C := rs 0 (qB 2 0<|qB 3 1<|qF 4<|qe) <| i1 6 (qr 2 0<|qh false<|qr 3 0<|qh false<|qq .neq 2<|yo<|qR 2 1 3<|qR 3 1 3<|q1 (.eqa true [.i,.i,.i] (.l 9) (.l 11))<|zo 7<|yo<|qr 2 4<|qr 3 4<|qq .neq 16<|zO 14<|qe) 26 (rs 0 (qF 4<|qe) .ret) <| sq (rs 0 (qz 5 0<|qe) <| bk 0 l242_0) <| rs 0 (qT 4<|qe) .ret
def F242 : F := mF 2 [.t 4] none c242
attribute [go_sem] c242 F242
def c244 : C := rs 0 (qB 1 0<|qF 2<|qe) <| i1 3 (qr 1 0<|qr 1 1<|q1 (.mks 1 2 [.int .i64 0] [(0,.l 1),(1,.l 3)])<|qC 284 [ci 1,.l 4]<|qn<|yo<|qr 1 13<|qr 1 14<|qr 1 15<|qr 1 16<|q1 (.mks 1 4 [.int .i64 0] [(0,.l 9),(1,.l 11),(2,.l 13),(3,.l 15)])<|qC 284 [ci 0,.l 16]<|qn<|zo 7<|yo<|qr 1 4<|qk .lss 1<|zo 20<|yo<|qr 1 4<|qk .gtr 3<|zO 25<|qe) 32 (rs 0 (qF 2<|qe) .ret) <| i1 33 (qR 1 2 2<|qc 186<|qn<|yo<|qr 1 5<|qc 203<|qn<|zo 4<|yo<|qR 1 6 3<|qc 28<|qn<|zo 10<|yo<|qR 1 9 3<|qc 28<|qn<|zo 16<|yo<|qr 1 12<|qc 81<|qn<|zO 22<|qe) 60 (rs 0 (qF 2<|qe) .ret) <| rs 61 (qr 1 5<|q1 (.fn 298 [.g 1] [1])<|qd 299<|qn<|qv 2<|qe) .ret
def F244 : F := mF 1 [.t 2] none c244
attribute [go_sem] c244 F244
def l245_0 : C := .loop [] [] [] [] (lq 81 (qm 3<|qr 1 5<|qh false<|qQ .lss 0<|qe) 85 0 <| sq (bk 1 (rt 88 (qR 1 2 2<|qr 1 5<|qm 3<|qi 2<|qg 0<|qj<|qC 142 (ls [1,7])<|qN<|qe) <| cd 97 (rs 0 (qF 2<|qe) .ret) .skip)) <| r1 86 (qm 3<|qk .add 1<|qv 3<|qe))
def r245_10 : List Op := (qT 2<|qe) 0 0 none
def c245 : C := rs 0 (qB 1 0<|qF 2<|qe) <| i1 4 (qr 1 0<|qc 292<|qn<|yo<|qr 1 1<|qc 292<|qn<|zo 4<|yo<|qr 1 13<|qc 293<|qn<|zo 10<|yo<|qr 1 14<|qc 293<|qn<|zo 16<|yo<|qr 1 15<|qc 293<|qn<|zo 22<|yo<|qr 1 16<|qc 293<|qn<|zO 28<|qe) 37 (rs 0 (qF 2<|qe) .ret) <| i1 38 (qr 1 4<|qk .neq 1<|ya<|qr 1 4<|qk .neq 2<|za 3<|ya<|qr 1 4<|qk .neq 3<|za 8<|yo<|qR 1 2 2<|qc 167<|qn<|zo 13<|yo<|qr 1 5<|qc 204<|qn<|zo 19<|yo<|qR 1 6 3<|qc 24<|qn<|zo 25<|yo<|qR 1 9 3<|qc 24<|qn<|zo 31<|yo<|qr 1 12<|qc 80<|qn<|zO 37<|qe) 80 (rs 0 (qF 2<|qe) .ret) <| sq (rs 0 (qz 3 0<|qe) <| bk 0 l245_0) <| sq (.region false r245_10) .ret
def F245 : F := mF 1 [.t 2] none c245
attribute [go_sem] r245_10 c245 F245
def l246_0 : C := .loop [] [] [] [] (lq 20 (qm 3<|qr 1 0<|qh false<|qQ .lss 0<|qe) 24 0 <| sq (bk 1 (rt 27 (qr 1 0<|qm 3<|qi 17<|qJ 17<|qc 245<|qn<|yo<|qr 1 0<|qm 3<|qi 17<|qJ 17<|qR 1 1 3<|qC 300 (ls [12,14])<|qn<|zo 7<|yo<|qm 3<|qk .gtr 0<|ya<|qr 1 0<|qm 3<|qk .sub 1<|q1 (.iad 17 (.l 23) (.l 25))<|qg 0<|qj<|qr 1 0<|qm 3<|qi 17<|qg 0<|qj<|qq .geq 28<|y0 18<|qa 21<|zO 18<|qe) <| cd 64 (rs 0 (qF 2<|qe) .ret) .skip)) <| r1 25 (qm 3<|qk .add 1<|qv 3<|qe))
def c246 : C := rs 0 (qB 1 0<|qF 2<|qe) <| i1 4 (qr 1 0<|qh false<|qk .gtr 8<|yo<|qR 1 1 3<|qc 24<|qn<|zo 4<|yo<|qr 1 4<|qc 293<|qn<|zO 10<|qe) 19 (rs 0 (qF 2<|qe) .ret) <| sq (rs 0 (qz 3 0<|qe) <| bk 0 l246_0) <| rs 0 (qT 2<|qe) .ret
def F246 : F := mF 1 [.t 2] none c246
attribute [go_sem] c246 F246
def l249_0 : C := .loop [] [] [5] [] (rs 10 (q3 (.bin .lss (.g 9) (.g 8))<|qe) <| sq (cd 10 .skip <| .exit 0) <| sq (bk 1 (rs 11 (q1 (.iad 17 (.g 7) (.g 9))<|qJ 17<|qG 5 z_8<|qs 5 17 2 1<|qe) <| i1 13 (qr 5 0<|qm 3<|qq .leq 1<|yo<|qb 5 17<|qc 244<|qn<|zo 4<|yo<|qb 5 17<|qR 1 1 3<|qC 301 (ls [10,12])<|qn<|zO 9<|qe) 28 (rs 0 (qF 2<|qe) .ret) <| r1 29 (qr 5 0<|qv 3<|qe))) <| r1 31 (q1 (.bin .add (.g 9) (ci 1))<|qv 9<|qe))
def c249 : C := rs 0 (qB 1 0<|qF 2<|qe) <| rs 0 (qz 3 0<|qe) <| sq (rs 6 (qf 1 0<|q3 (.load (.v 1) none (.l 0))<|qH false<|q3 (.mov (ci 0))<|qe) <| bk 0 l249_0) <| rs 32 (qr 1 0<|qh false<|qk .leq 8<|ya<|qR 1 1 3<|qc 28<|za 4<|ya<|qr 1 4<|q1 (.mks 1 1 [.int .i64 0] [(0,.l 11)])<|qC 284 [ci 0,.l 12]<|za 9<|qv 2<|qe) .ret
def F249 : F := mF 1 [.t 2] none c249
attribute [go_sem] c249 F249
def c250 : C := rs 0 (qB 2 0<|qB 3 1<|qF 4<|qe) <| rs 5 (qr 2 0<|qr 3 0<|qq .eql 1<|ya<|qr 2 1<|qr 3 1<|qq .eql 7<|za 5<|ya<|qR 2 2 2<|qR 3 2 2<|q1 (.eqa false [.s,.s] (.l 14) (.l 16))<|za 12<|ya<|qr 2 4<|qr 3 4<|qq .eql 21<|za 19<|ya<|qr 2 5<|qr 3 5<|qC 202 (ls [28,30])<|za 26<|ya<|qR 2 6 3<|qR 3 6 3<|q1 (.eqa false [.i,.i,.i] (.l 35) (.l 37))<|za 33<|ya<|qR 2 9 3<|qR 3 9 3<|q1 (.eqa false [.i,.i,.i] (.l 42) (.l 44))<|za 40<|ya<|qr 2 12<|qr 3 12<|qC 86 (ls [49,51])<|za 47<|ya<|qr 2 13<|qr 3 13<|qq .eql 56<|za 54<|ya<|qr 2 14<|qr 3 14<|qq .eql 63<|za 61<|ya<|qr 2 15<|qr 3 15<|qq .eql 70<|za 68<|ya<|qr 2 16<|qr 3 16<|qq .eql 77<|za 75<|qv 4<|qe) .ret
def F250 : F := mF 2 [.t 4] none c250
attribute [go_sem] c250 F250
def c252 : C := rs 0 (qB 1 0<|qF 2<|qe) <| rs 3 (qr 1 5<|qc 198<|ya<|qr 1 12<|qc 78<|za 3<|ya<|qf 1 2<|qg 0<|ql 1<|qh true<|qk .lss 100<|za 8<|ya<|qf 1 2<|qg 1<|ql 1<|qh true<|qk .lss 100<|za 15<|qv 2<|qe) .ret
def F252 : F := mF 1 [.t 2] none c252
attribute [go_sem] c252 F252
def c284 : C := rs 0 (qB 2 0<|qF 4<|qe) <| rs 5 (qm 1<|q1 (.fn 313 [.g 2] [2])<|qd 67<|qn<|qv 4<|qe) .ret
def F284 : F := mF 2 [.t 4] none c284
attribute [go_sem] c284 F284
def c285 : C := rs 0 (qB 1 0<|qF 2<|qe) <| i1 3 (qr 1 0<|qr 1 1<|q1 (.mks 1 2 [.int .i64 0] [(0,.l 1),(1,.l 3)])<|qC 284 [ci 1,.l 4]<|qn<|yo<|qr 1 2<|qk .lss 1<|zo 7<|yo<|qr 1 2<|qk .gtr 6<|zo 12<|yo<|qr 1 4<|qh true<|qk .gtr 16<|zo 17<|yo<|qr 1 6<|qh true<|qk .gtr 16<|zo 23<|yo<|qr 1 11<|qk .lss 0<|zo 29<|yo<|qr 1 11<|qk .gtr 8<|zo 34<|yo<|qR 1 7 3<|qc 28<|qn<|zo 39<|yo<|qr 1 10<|q1 (.bin .neq (.l 47) (.c (.str [])))<|ya<|qr 1 10<|qc 170<|qn<|y0 45<|qa 49<|zO 45<|qe) 58 (rs 0 (qF 2<|qe) .ret) <| i1 59 (qr 1 2<|qK .eql 6<|qe) 61 (rs 62 (qr 1 3<|q1 (.bin .eql (.l 1) (.c (.str [])))<|yo<|qr 1 3<|qc 170<|zo 3<|ya<|qr 1 11<|qk .geq 1<|za 8<|qv 2<|qe) .ret) <| rs 75 (qr 1 3<|qc 170<|qv 2<|qe) .ret
def F285 : F := mF 1 [.t 2] none c285
attribute [go_sem] c285 F285
def c287 : C := rs 0 (qB 2 0<|qG 4 z_8<|qe) <| sq (rs 8 (qb 2 5<|qm 1<|qd 314<|q2 7 (.mov (.l 2))<|qx 0<|qy 1<|qw 5<|qw 6<|qe) <| rs 13 (q3 (.mov (.g 6))<|qe) <| cd 13 (rs 14 (qr 2 0<|qm 5<|qi 17<|qJ 17<|qt 4 17 4<|qe) .ret) .skip) <| rs 19 (q1 (.build z_8 [])<|qt 4 17 0<|qe) .ret
def F287 : F := mF 2 [.cell 4 (some 17)] none c287
attribute [go_sem] c287 F287
def c288 : C := rs 0 (qB 1 0<|qF 2<|qe) <| rs 3 (qr 1 2<|qk .eql 1<|yo<|qr 1 2<|qk .eql 2<|zo 3<|yo<|qr 1 2<|qk .eql 3<|zo 8<|qv 2<|qe) .ret
def F288 : F := mF 1 [.t 2] none c288
attribute [go_sem] c288 F288
def c289 : C := rs 0 (qB 4 0<|qB 5 1<|qB 6 2<|qB 7 3<|qG 8 z_6<|qG 9 z_7<|qe) <| sq (rs 15 (qr 5 12<|qr 6 0<|qr 6 1<|q3 (.call (.k 82) .no none [.l 1,.l 3,.l 5])<|qe) <| bk 0 (rs 23 (q1 (.bin .eql (.g 21) (ci 2))<|qv 22<|qe) <| cd 22 (rs 25 (qr 5 12<|qr 6 0<|qC 84 (ls [1,3])<|q2 24 (.mov (.l 4))<|qx 0<|qy 1<|qG 10 z_2<|qs 10 11 8 6<|qD 11<|q1 (.mov (.l 7))<|qe) <| rt 32 (qb 4 5<|qR 10 2 9<|qt 8 5 0<|qt 9 9 2<|qe) .ret) <| rs 36 (q1 (.bin .eql (.g 21) (ci 3))<|qv 35<|qe) <| cd 35 (rt 37 (qb 4 5<|qC 286 [ci 10]<|qt 8 5 0<|qt 9 9 1<|qe) .ret) .skip)) <| i1 39 (qb 7 3<|qR 4 1 3<|qC 15 (ls [0,2])<|qK .leq 0<|qe) 43 (rt 44 (qb 4 5<|qC 286 [ci 1]<|qt 8 5 0<|qt 9 9 1<|qe) .ret) <| rs 46 (qb 4 5<|qb 5 17<|qr 6 3<|qC 290 (ls [0,1,3])<|qG 12 z_7<|qs 12 9 5 4<|qe) <| rs 51 (qb 7 3<|qr 12 4<|q1 (.build z_7 [(1,3,.l 0),(4,1,.l 2)])<|qG 13 z_7<|qs 13 9 4 3<|qe) <| rs 0 (qz 14 0<|qe) <| sq (bk 1 (rs 56 (qr 6 2<|qk .eql 3<|ya<|qr 12 4<|qr 6 5<|q1 (.eqb true (.l 5) (.l 7))<|yo<|qr 12 4<|ya<|qr 12 5<|qr 6 6<|qq .neq 14<|y0 9<|qa 12<|y1 3<|qo 9<|za 3<|qv 55<|qe) <| cd 55 (r2 77 (qr 12 5<|qf 13 0<|qu 13 2 15<|qf 13 5<|qs 13 1 4 1<|qe)) <| rs 82 (qr 6 2<|qk .neq 2<|qv 81<|qe) <| cd 81 (r1 86 (qr 5 5<|qr 6 3<|qb 7 3<|qr 6 4<|q1 (.build z_1 [(0,3,.l 4),(4,1,.l 6)])<|qC 200 (ls [1,3,7])<|q2 85 (.mov (.l 8))<|qx 0<|qy 1<|qf 5 5<|qs 5 1 12 10<|qV 14 11<|qe)) <| rs 99 (qr 12 4<|qv 98<|qe) <| cd 98 (r1 102 (qr 5 5<|qr 6 3<|qb 7 3<|q1 (.build z_1 [(0,3,.l 4),(3,1,.c (.bool true))])<|qC 200 (ls [1,3,5])<|q2 101 (.mov (.l 6))<|qx 0<|qy 1<|qf 5 5<|qs 5 1 10 8<|qV 14 9<|qe)) .skip)) <| i1 112 (qm 14<|qK .neq 0<|qe) 113 (rt 114 (qb 4 5<|qm 14<|qc 286<|qt 8 5 0<|qt 9 9 2<|qe) .ret) <| sq (rs 118 (qr 5 12<|qr 6 0<|qr 6 1<|qb 13 9<|q1 (.build z_2 [(0,1,.l 3),(1,1,.l 5),(2,9,.l 6)])<|qC 88 (ls [1,7])<|q2 117 (.mov (.l 8))<|qx 0<|qy 1<|qf 5 12<|qs 5 1 12 10<|qV 14 11<|qe) <| rs 130 (qm 14<|qK .neq 0<|qe) <| cd 131 (rt 132 (qb 4 5<|qm 14<|qc 286<|qt 8 5 0<|qt 9 9 2<|qe) .ret) .skip) <| rs 135 (qb 4 5<|qb 5 17<|qd 304<|qt 4 5 2<|qe) <| rs 138 (qb 7 3<|qf 4 1<|qs 4 3 1 0<|qe) <| rt 140 (qb 4 5<|qb 13 9<|qt 8 5 0<|qt 9 9 1<|qe) .ret
def F289 : F := mF 4 [.cell 8 (some 5),.cell 9 (some 9)] none c289
attribute [go_sem] c289 F289
def c290 : C := rs 0 (qB 3 0<|qB 4 1<|qG 6 z_7<|qe) <| rs 10 (qr 4 5<|qm 2<|qR 3 1 3<|qC 312 (ls [1,2,4])<|q2 9 (.mov (.l 5))<|qx 0<|qy 1<|qG 7 z_1<|qs 7 5 9 7<|qV 8 8<|qe) <| rs 18 (qR 7 0 3<|qm 8<|ya<|qr 7 3<|qn<|za 3<|qr 7 4<|q1 (.build z_7 [(1,3,.l 1),(4,1,.l 7),(5,1,.l 9)])<|qt 6 9 10<|qe) .ret
def F290 : F := mF 3 [.cell 6 (some 9)] none c290
attribute [go_sem] c290 F290
def c292 : C := rs 0 (qF 2<|qe) <| rs 3 (qm 0<|qk .gtr 0<|ya<|qm 0<|qk .leq 1099511627776<|za 2<|qv 2<|qe) .ret
def F292 : F := mF 1 [.t 2] none c292
attribute [go_sem] c292 F292
def c293 : C := rs 0 (qF 2<|qe) <| rs 3 (qm 0<|qk .eql 0<|yo<|qm 0<|qc 292<|zo 2<|qv 2<|qe) .ret
def F293 : F := mF 1 [.t 2] none c293
attribute [go_sem] c293 F293
def c298 : C := rs 0 (qB 2 0<|qF 3<|qe) <| rs 4 (qf 1 2<|qJ 2<|qr 2 0<|qC 171 (ls [1,3])<|qn<|qv 3<|qe) .ret
def F298 : F := mF 2 [.t 3] none c298
attribute [go_sem] c298 F298
def c299 : C := rs 0 (qF 4<|qe) <| rs 5 (qm 0<|qm 1<|qd 315<|qk .geq 0<|qv 4<|qe) .ret
def F299 : F := mF 2 [.t 4] none c299
attribute [go_sem] c299 F299
def l300_1 : C := .loop [] [] [] [] (lq 14 (qm 6<|qr 2 5<|qm 5<|qi 2<|qg 1<|qj<|qh false<|qQ .lss 0<|qe) 22 2 <| sq (bk 3 (rt 25 (qb 3 3<|qr 2 5<|qm 5<|qi 2<|qg 1<|qj<|qm 6<|qi 5<|qg 0<|qJ 3<|q3 (.call (.k 6) .no none [.l 0,.l 10])<|qe) <| cd 36 (rs 0 (qF 4<|qe) .ret) .skip)) <| r1 23 (qm 6<|qk .add 1<|qv 6<|qe))
def l300_0 : C := .loop [] [] [] [] (lq 7 (qm 5<|qr 2 5<|qh false<|qQ .lss 0<|qe) 11 0 <| sq (bk 1 (rs 0 (qz 6 0<|qe) <| bk 2 l300_1)) <| r1 12 (qm 5<|qk .add 1<|qv 5<|qe))
def c300 : C := rs 0 (qB 2 0<|qB 3 1<|qF 4<|qe) <| sq (rs 0 (qz 5 0<|qe) <| bk 0 l300_0) <| rs 0 (qT 4<|qe) .ret
def F300 : F := mF 2 [.t 4] none c300
attribute [go_sem] c300 F300
def c301 : C := rs 0 (qB 2 0<|qB 3 1<|qF 4<|qe) <| rs 5 (qr 2 5<|q1 (.fn 316 [.g 3] [3])<|qd 299<|qn<|qv 4<|qe) .ret
def F301 : F := mF 2 [.t 4] none c301
attribute [go_sem] c301 F301
def c304 : C := rs 0 (qB 2 0<|qB 3 1<|qG 4 z_6<|qe) <| rs 8 (qb 2 5<|qr 3 0<|q1 (.call (.k 314) .borrow none [.l 0,.l 2])<|q2 7 (.mov (.l 3))<|qx 0<|qy 1<|qw 5<|qw 6<|qe) <| rs 14 (qr 2 0<|q1 (.call (.k 307) .freeze (some 0) [.l 1])<|qf 2 0<|qs 2 1 3 2<|qe) <| sq (rs 18 (q3 (.mov (.g 6))<|qe) <| cd 18 (r1 19 (qr 2 0<|qm 5<|qb 3 17<|q1 (.iad 17 (.l 1) (.l 2))<|q5 (.store (.e 16) 17 (.l 4) (.l 3))<|qe)) <| r1 24 (qr 2 0<|qm 5<|qb 3 17<|q1 (.mks 17 1 z_8 [(0,.l 3)])<|q1 (.ins 317 16 17 (.l 1) (.l 2) (.l 4))<|qf 2 0<|qs 2 1 6 5<|qe)) <| rs 31 (qb 2 5<|qt 4 5 0<|qe) .ret
def F304 : F := mF 2 [.cell 4 (some 5)] none c304
attribute [go_sem] c304 F304
def c312 : C := rs 0 (qB 5 2<|qG 6 z_1<|qF 7<|qe) <| i1 10 (qm 0<|qc 203<|qN<|qe) 12 (rs 13 (q1 (.build z_1 [])<|qt 6 5 0<|qF 7<|qe) .ret) <| rs 15 (qm 0<|qm 1<|qd 220<|q2 14 (.mov (.l 2))<|qx 0<|qy 1<|qw 8<|qw 9<|qe) <| i1 20 (qm 9<|qN<|qe) 21 (rs 22 (q1 (.build z_1 [])<|qt 6 5 0<|qF 7<|qe) .ret) <| rt 23 (qm 0<|qm 8<|qi 2<|qg 1<|qj<|qb 5 3<|qd 10<|qx 0<|qy 1<|qt 6 5 7<|qw 7<|qe) .ret
def F312 : F := mF 3 [.cell 6 (some 5),.t 7] none c312
attribute [go_sem] c312 F312
def c313 : C := rs 0 (qF 3<|qe) <| rs 4 (qm 0<|q1 (.load (.c) none (.g 1))<|qq .lss 0<|yo<|qm 0<|qk .gtr 1099511627776<|zo 3<|qv 3<|qe) .ret
def F313 : F := mF 2 [.t 3] none c313
attribute [go_sem] c313 F313
def c314 : C := rs 0 (qB 2 0<|qz 4 0<|qF 5<|qe) <| rs 6 (qr 2 0<|qm 1<|qC 319 [.l 1,.l 2,.f 320]<|qx 0<|qy 1<|qw 4<|qw 5<|qe) .ret
def F314 : F := mF 2 [.t 4,.t 5] none c314
attribute [go_sem] c314 F314
def l315_0 : C := .loop [] [] [] [] (rs 9 (q3 (.bin .lss (.g 8) (.g 7))<|qe) <| sq (cd 9 .skip <| .exit 0) <| sq (bk 1 (rs 10 (qm 8<|qv 5<|qe) <| rs 11 (qm 1<|qm 0<|qm 5<|qi 2<|qJ 2<|q3 (.call (.v (.l 0)) .no none [.l 4])<|qe) <| cd 16 (rs 17 (qm 5<|qv 4<|qe) .ret) .skip)) <| r1 18 (q1 (.bin .add (.g 8) (ci 1))<|qv 8<|qe))
def c315 : C := rs 0 (qz 4 0<|qe) <| sq (rs 6 (qm 0<|qH false<|q3 (.mov (ci 0))<|qe) <| bk 0 l315_0) <| rs 0 (qz 4 (-1)<|qe) .ret
def F315 : F := mF 2 [.t 4] none c315
attribute [go_sem] c315 F315
def c316 : C := rs 0 (qB 2 0<|qF 3<|qe) <| rt 4 (qr 2 1<|qr 2 1<|qh false<|qk .sub 1<|q1 (.iad 5 (.l 1) (.l 5))<|qg 0<|qJ 3<|q1 (.load (.c) (some 3) (.g 1))<|qd 15<|qk .gtr 0<|qv 3<|qe) .ret
def F316 : F := mF 2 [.t 3] none c316
attribute [go_sem] c316 F316
def l319_0 : C := .loop [] [] [] [] (lq 15 (qm 9<|qm 10<|qQ .lss 0<|qe) 17 0 <| bk 1 (rs 18 (qm 9<|qm 10<|qq .add 0<|q1 (.conv (.int .u64) (.l 2))<|q1 (.sh .shr (.l 3) (.c (.int .u64 1)))<|q1 (.conv (.int .i64) (.l 4))<|qv 11<|qe) <| rs 24 (qm 2<|qm 0<|qm 11<|qi 17<|qJ 17<|qm 1<|q1 (.call (.v (.l 0)) .no none [.l 4,.l 5])<|qK .lss 0<|qe) <| cd 31 (r1 32 (qm 11<|qk .add 1<|qv 9<|qe)) <| r1 34 (qm 11<|qv 10<|qe)))
def c319 : C := rs 0 (qz 6 0<|qF 7<|qe) <| rs 12 (qm 0<|qh false<|qv 8<|qe) <| rs 14 (qm 8<|qz 9 0<|qw 10<|qe) <| sq (bk 0 l319_0) <| rs 35 (qm 9<|qm 9<|qm 8<|qq .lss 1<|ya<|qm 2<|qm 0<|qm 9<|qi 17<|qJ 17<|qm 1<|q1 (.call (.v (.l 5)) .no none [.l 9,.l 10])<|qk .eql 0<|za 4<|qV 6 0<|qw 7<|qe) .ret
def F319 : F := mF 3 [.t 6,.t 7] none c319
attribute [go_sem] c319 F319
def c320 : C := rs 0 (qB 2 0<|qz 4 0<|qe) <| rs 5 (qr 2 0<|qm 1<|qq .sub 1<|qv 4<|qe) .ret
def F320 : F := mF 2 [.t 4] none c320
attribute [go_sem] c320 F320
def c339 : C := rs 0 (qB 1 0<|qF 2<|qe) <| rs 3 (qf 1 25<|qg 6<|ql 1<|qh false<|qk .leq 40<|ya<|qr 1 34<|qh false<|qk .leq 40<|za 5<|ya<|qr 1 35<|qh false<|qk .leq 40<|za 11<|ya<|qr 1 12<|qh true<|qk .leq 8192<|za 17<|qv 2<|qe) .ret
def F339 : F := mF 1 [.t 2] none c339
attribute [go_sem] c339 F339
def c341 : C := rs 0 (qB 1 0<|qF 2<|qe) <| i1 3 (qr 1 0<|qk .lss 1<|yo<|qr 1 0<|qk .gtr 37<|zo 3<|yo<|qf 1 25<|qg 0<|ql 1<|qk .lss 0<|zo 8<|yo<|qf 1 25<|qg 0<|ql 1<|qk .gtr 16<|zo 14<|yo<|qf 1 25<|qg 6<|ql 1<|qh false<|qk .gtr 8<|zo 20<|yo<|qr 1 34<|qh false<|qk .gtr 8<|zo 27<|yo<|qr 1 35<|qh false<|qk .gtr 8<|zO 33<|qe) 41 (rs 0 (qF 2<|qe) .ret) <| i1 42 (qb 1 36<|qc 366<|q3 (.call (.k 67) .no none [.l 1,.f 367])<|qe) 44 (rs 0 (qF 2<|qe) .ret) <| rs 45 (qR 1 9 3<|qc 28<|ya<|qf 1 13<|qg 7<|q1 (.load (.v 1) (some 3) (.l 5))<|qc 28<|za 3<|ya<|qf 1 25<|qg 1<|q1 (.load (.v 1) (some 3) (.l 11))<|qc 28<|za 9<|qv 2<|qe) .ret
def F341 : F := mF 1 [.t 2] none c341
attribute [go_sem] c341 F341
def c345 : C := rs 0 (qS 2 1<|qe) <| i1 3 (qm 0<|qc 368<|qN<|qe) 5 (rs 0 (qS 2 1<|qe) .ret) <| rs 6 (qm 0<|qm 0<|qk .rem 3<|qk .add 1<|q1 (.mks 1 2 [.int .i64 0] [(0,.l 0),(1,.l 3)])<|qv 2<|qe) .ret
def F345 : F := mF 1 [.t 2] none c345
attribute [go_sem] c345 F345
def l360_0 : C := .loop [] [] [] [] (lq 11 (qm 5<|qm 0<|qh false<|qQ .lss 0<|qe) 14 0 <| sq (bk 1 (rt 17 (qm 0<|qm 5<|qi 36<|qJ 36<|qm 1<|qm 5<|qi 36<|qJ 36<|qC 372 (ls [3,7])<|qN<|qe) <| cd 26 (rs 0 (qF 4<|qe) .ret) .skip)) <| r1 15 (qm 5<|qk .add 1<|qv 5<|qe))
def c360 : C := rs 0 (qF 4<|qe) <| i1 6 (qm 0<|qh false<|qm 1<|qh false<|qQ .neq 1<|qe) 10 (rs 0 (qF 4<|qe) .ret) <| sq (rs 0 (qz 5 0<|qe) <| bk 0 l360_0) <| rs 0 (qT 4<|qe) .ret
def F360 : F := mF 2 [.t 4] none c360
attribute [go_sem] c360 F360
def l366_0 : C := .loop [] [] [5] [] (rs 41 (q3 (.bin .lss (.g 40) (.g 39))<|qe) <| sq (cd 41 .skip <| .exit 0) <| sq (bk 1 (rs 42 (q1 (.iad 5 (.g 38) (.g 40))<|qJ 5<|qG 5 z_0<|qs 5 5 2 1<|qe) <| r1 44 (qm 3<|qr 5 2<|qr 5 3<|qr 5 4<|q1 (.mks 1 3 [.int .i64 0] [(0,.l 2),(1,.l 4),(2,.l 6)])<|q1 (.app 36 1 (.l 0) (.l 7))<|qv 3<|qe))) <| r1 53 (q1 (.bin .add (.g 40) (ci 1))<|qv 40<|qe))
def c366 : C := rs 0 (qB 1 0<|qS 2 1<|qe) <| rs 6 (qr 1 0<|qr 1 1<|qr 1 2<|qr 1 3<|qr 1 4<|qr 1 5<|qr 1 6<|qr 1 7<|qr 1 8<|qf 1 13<|qg 0<|ql 1<|qf 1 13<|qg 1<|ql 1<|qf 1 13<|qg 2<|ql 1<|qf 1 13<|qg 11<|ql 1<|q1 (.mkb 1 13 [.int .i64 0] [(0,.l 1),(1,.l 3),(2,.l 5),(3,.l 7),(4,.l 9),(5,.l 11),(6,.l 13),(7,.l 15),(8,.l 17),(9,.l 20),(10,.l 23),(11,.l 26),(12,.l 29)])<|qv 3<|qe) <| sq (rs 37 (qf 1 34<|q3 (.load (.v 1) none (.l 0))<|qH false<|q3 (.mov (ci 0))<|qe) <| bk 0 l366_0) <| rs 54 (qm 3<|qr 1 35<|q1 (.app 36 1 (.l 0) (.l 2))<|qv 2<|qe) .ret
def F366 : F := mF 1 [.t 2] none c366
attribute [go_sem] c366 F366
def c367 : C := rs 0 (qF 2<|qe) <| rs 3 (qm 0<|qk .lss 0<|yo<|qm 0<|qk .gtr 1099511627776<|zo 2<|qv 2<|qe) .ret
def F367 : F := mF 1 [.t 2] none c367
attribute [go_sem] c367 F367
def c368 : C := rs 0 (qF 2<|qe) <| rs 3 (qm 0<|qk .geq 1<|ya<|qm 0<|qk .leq 3<|za 2<|qv 2<|qe) .ret
def F368 : F := mF 1 [.t 2] none c368
attribute [go_sem] c368 F368
def l372_0 : C := .loop [] [] [] [] (lq 13 (qm 5<|qr 2 35<|qh false<|qQ .lss 0<|qe) 17 0 <| sq (bk 1 (rt 20 (qr 2 35<|qm 5<|qi 1<|qj<|qr 3 35<|qm 5<|qi 1<|qj<|qQ .neq 4<|qe) <| cd 30 (rs 0 (qF 4<|qe) .ret) .skip)) <| r1 18 (qm 5<|qk .add 1<|qv 5<|qe))
def c372 : C := rs 0 (qB 2 0<|qB 3 1<|qF 4<|qe) <| i1 6 (qr 2 35<|qh false<|qr 3 35<|qh false<|qQ .neq 2<|qe) 12 (rs 0 (qF 4<|qe) .ret) <| sq (rs 0 (qz 5 0<|qe) <| bk 0 l372_0) <| rs 31 (qr 2 0<|qr 3 0<|qq .eql 1<|ya<|qr 2 1<|qr 3 1<|qq .eql 7<|za 5<|ya<|qr 2 2<|qr 3 2<|qq .eql 14<|za 12<|ya<|qr 2 3<|qr 3 3<|qq .eql 21<|za 19<|ya<|qr 2 4<|qr 3 4<|qq .eql 28<|za 26<|ya<|qr 2 5<|qr 3 5<|qq .eql 35<|za 33<|ya<|qr 2 6<|qr 3 6<|qq .eql 42<|za 40<|ya<|qr 2 7<|qr 3 7<|qq .eql 49<|za 47<|ya<|qr 2 8<|qr 3 8<|qq .eql 56<|za 54<|ya<|qR 2 9 3<|qR 3 9 3<|q1 (.eqa false [.i,.i,.i] (.l 63) (.l 65))<|za 61<|ya<|qr 2 12<|qr 3 12<|qq .eql 70<|za 68<|ya<|qR 2 13 12<|qR 3 13 12<|q1 (.eqa false [.i,.i,.i,.s,.s,.b,.s,.i,.i,.i,.s,.i] (.l 77) (.l 79))<|za 75<|ya<|qR 2 25 9<|qR 3 25 9<|qC 101 (ls [84,86])<|za 82<|ya<|qr 2 34<|qr 3 34<|qC 153 (ls [91,93])<|za 89<|qv 4<|qe) .ret
def F372 : F := mF 2 [.t 4] none c372
attribute [go_sem] c372 F372
def c403 : C := rs 0 (qB 2 0<|qF 4<|qe) <| rs 14 (qb 2 2<|qc 398<|qG 5 z_9<|qs 5 2 2 1<|qe) <| i1 16 (qb 5 2<|qc 404<|qN<|qe) 18 (rs 19 (q0 400<|qv 4<|qe) .ret) <| rs 20 (qb 5 2<|qc 405<|qv 6<|qe) <| rs 23 (qb 2 2<|qm 1<|qd 406<|q2 22 (.mov (.l 2))<|qx 0<|qy 1<|qG 7 z_6<|qs 7 5 6 4<|qV 8 5<|qe) <| rs 29 (qb 2 2<|qc 407<|q2 28 (.mov (.l 1))<|qx 0<|qy 1<|qG 9 z_9<|qs 9 2 5 3<|qV 10 4<|qe) <| i2 33 (qb 2 2<|qc 408<|qm 6<|q1 (.eqb true (.l 1) (.l 2))<|yo<|qb 9 2<|qc 398<|qb 5 2<|qd 399<|qn<|zO 4<|qe) 43 (rs 0 (qF 4<|qe) .ret) <| rs 44 (qb 5 2<|qm 1<|qd 409<|qv 11<|qe) <| i1 47 (qm 6<|qN<|qe) 48 (rs 49 (qm 8<|qn<|ya<|qb 7 5<|q1 (.build z_6 [])<|qd 242<|za 2<|ya<|qm 10<|qh false<|qk .eql 0<|za 7<|ya<|q0 400<|za 12<|qv 4<|qe) .ret) <| i1 64 (qm 10<|qb 5 2<|qc 410<|qC 360 (ls [0,2])<|qN<|qe) 68 (rs 0 (qF 4<|qe) .ret) <| i1 69 (qm 11<|qk .lss 0<|yo<|qr 5 1<|qm 11<|qi 9<|qg 1<|qJ 7<|qc 38<|qn<|zO 2<|qe) 80 (rs 81 (qm 8<|qn<|ya<|qb 7 5<|q1 (.build z_6 [])<|qd 242<|za 2<|ya<|q0 400<|za 7<|qv 4<|qe) .ret) <| rs 92 (qr 5 1<|qm 11<|qi 9<|qg 1<|qg 4<|qj<|qc 411<|q2 91 (.mov (.l 7))<|qx 0<|qy 1<|qG 12 z_6<|qs 12 5 11 9<|qD 13<|q1 (.mov (.l 10))<|qe) <| rs 102 (qm 8<|ya<|qb 7 5<|qb 12 5<|qd 242<|za 1<|ya<|q0 400<|za 6<|qv 4<|qe) .ret
def F403 : F := mF 2 [.t 4] none c403
attribute [go_sem] c403 F403
def l395_0 : C := .loop [] [] [8] [] (lq 19 (qm 5<|qK .leq 3<|qe) 20 0 <| sq (bk 1 (rs 24 (qm 5<|q1 (.call (.k 397) .freeze none [.l 0])<|q1 (.call (.k 401) .borrow none [.l 1])<|q2 23 (.mov (.l 2))<|qx 0<|qy 1<|qw 6<|qD 7<|q1 (.mov (.l 5))<|qe) <| rs 30 (qm 0<|qm 5<|q1 (.call (.k 345) .freeze none [.l 1])<|qm 6<|q1 (.call (.k 43) .freeze none [.l 0,.l 2,.l 3])<|q2 29 (.mov (.l 4))<|qx 0<|qy 1<|qG 8 z_3<|qs 8 7 8 6<|qV 9 7<|qe) <| rs 37 (qm 9<|qK .eql 0<|qe) <| cd 38 (r1 39 (qr 4 1<|qm 5<|qb 8 7<|q1 (.build z_10 [(0,1,.l 2),(1,7,.l 3)])<|q1 (.mks 9 1 z_10 [(0,.l 4)])<|q1 (.app 45 9 (.l 1) (.l 5))<|qf 4 1<|qs 4 1 7 6<|qe)) .skip)) <| r1 21 (qm 5<|qk .add 1<|qv 5<|qe))
def c395 : C := rs 0 (qG 2 z_9<|qz 3 0<|qe) <| i1 10 (qm 0<|qk .lss 1<|yo<|qm 0<|qk .gtr 3<|zO 2<|qe) 15 (rs 16 (q1 (.build z_9 [])<|qt 2 2 0<|qz 3 1<|qe) .ret) <| rs 17 (qm 0<|q1 (.build [.int .i64 0,.nslice 9] [(0,1,.l 0)])<|qG 4 z_11<|qs 4 2 2 1<|qe) <| sq (rs 0 (qz 5 1<|qe) <| bk 0 l395_0) <| rs 47 (qb 4 2<|qt 2 2 0<|qz 3 0<|qe) .ret
def F395 : F := mF 1 [.cell 2 (some 2),.t 3] none c395
attribute [go_sem] c395 F395
def c397 : C := rs 0 (qG 2 z_6<|qe) <| i1 3 (qm 0<|qK .neq 1<|qe) 4 (rs 5 (q1 (.build z_6 [])<|qt 2 5 0<|qe) .ret) <| rs 6 (q1 (.build z_8 [(0,1,.c (.int .i64 1)),(1,1,.c (.int .i64 1)),(4,1,.c (.int .i64 1))])<|q1 (.mks 17 1 z_8 [(0,.l 0)])<|q1 (.build z_6 [(0,1,.l 1)])<|qt 2 5 2<|qe) .ret
def F397 : F := mF 1 [.cell 2 (some 5)] none c397
attribute [go_sem] c397 F397
def l398_0 : C := .loop [] [] [5] [] (rs 13 (q3 (.bin .lss (.g 12) (.g 11))<|qe) <| sq (cd 13 .skip <| .exit 0) <| sq (bk 1 (rs 14 (q1 (.iad 9 (.g 10) (.g 12))<|qJ 9<|qG 5 z_10<|qs 5 9 2 1<|qe) <| r1 16 (qr 3 1<|qr 5 0<|qR 5 1 7<|qr 5 8<|q1 (.build z_10 [(0,1,.l 3),(1,7,.l 5),(8,1,.l 7)])<|q1 (.mks 9 1 z_10 [(0,.l 8)])<|q1 (.app 26 9 (.l 1) (.l 9))<|qf 3 1<|qs 3 1 11 10<|qe))) <| r1 28 (q1 (.bin .add (.g 12) (ci 1))<|qv 12<|qe))
def c398 : C := rs 0 (qB 1 0<|qG 2 z_9<|qe) <| rs 6 (qr 1 0<|q1 (.build [.int .i64 0,.nslice 9] [(0,1,.l 1)])<|qG 3 z_11<|qs 3 2 3 2<|qe) <| sq (rs 9 (qf 1 1<|q3 (.load (.v 1) none (.l 0))<|qH false<|q3 (.mov (ci 0))<|qe) <| bk 0 l398_0) <| rs 29 (qb 3 2<|qt 2 2 0<|qe) .ret
def F398 : F := mF 1 [.cell 2 (some 2)] none c398
attribute [go_sem] c398 F398
def l399_0 : C := .loop [] [] [] [] (lq 20 (qm 5<|qr 2 1<|qh false<|qQ .lss 0<|qe) 24 0 <| sq (bk 1 (rt 27 (qr 2 1<|qm 5<|qi 9<|qg 0<|qj<|qr 3 1<|qm 5<|qi 9<|qg 0<|qj<|qq .neq 5<|yo<|qr 2 1<|qm 5<|qi 9<|qg 1<|qJ 7<|qr 3 1<|qm 5<|qi 9<|qg 1<|qJ 7<|qC 45 (ls [19,25])<|qn<|zo 13<|yo<|qr 2 1<|qm 5<|qi 9<|qg 8<|qj<|qr 3 1<|qm 5<|qi 9<|qg 8<|qj<|qC 360 (ls [35,41])<|qn<|zO 29<|qe) <| cd 71 (rs 0 (qF 4<|qe) .ret) .skip)) <| r1 25 (qm 5<|qk .add 1<|qv 5<|qe))
def c399 : C := rs 0 (qB 2 0<|qB 3 1<|qF 4<|qe) <| i1 6 (qr 2 0<|qr 3 0<|qq .neq 1<|yo<|qr 2 1<|qh false<|qr 3 1<|qh false<|qq .neq 8<|zO 5<|qe) 19 (rs 0 (qF 4<|qe) .ret) <| sq (rs 0 (qz 5 0<|qe) <| bk 0 l399_0) <| rs 0 (qT 4<|qe) .ret
def F399 : F := mF 2 [.t 4] none c399
attribute [go_sem] c399 F399
def c400 : C := rs 0 (qF 0<|qe) <| rs 10 (qC 395 [ci 1]<|q2 9 (.mov (.l 0))<|qx 0<|qy 1<|qG 1 z_9<|qs 1 2 4 2<|qV 2 3<|qe) <| rt 14 (qb 1 2<|qC 420 [ci 11,ci 1,ci 1]<|qC 413 [.l 0,ci 5,.l 1]<|q2 13 (.mov (.l 2))<|qx 0<|qy 1<|qG 3 z_9<|qs 3 2 6 4<|qV 4 5<|qe) <| rs 20 (qb 3 2<|qc 407<|q2 19 (.mov (.l 1))<|qx 0<|qy 1<|qD 5<|q1 (.alloc z_9)<|qs 5 2 5 3<|q3 (.mov (.l 4))<|qe) <| rs 25 (qb 3 2<|qC 406 [.l 0,ci 1]<|q2 24 (.mov (.l 1))<|qx 0<|qy 1<|qG 7 z_6<|qs 7 5 5 3<|qV 8 4<|qe) <| rs 29 (qm 2<|qk .eql 0<|ya<|qm 4<|qh false<|qk .eql 1<|za 2<|ya<|qm 4<|q1 (.iad 36 (.l 8) (ci 0))<|qg 0<|qj<|qk .eql 35<|za 7<|ya<|qm 4<|q1 (.iad 36 (.l 15) (ci 0))<|qg 2<|qj<|qk .eql 2<|za 14<|ya<|qm 6<|qh false<|qk .eql 1<|za 21<|ya<|qm 8<|za 26<|ya<|qr 7 0<|qh false<|qk .eql 1<|za 29<|qv 0<|qe) .ret
def F400 : F := mF 0 [.t 0] none c400
attribute [go_sem] c400 F400
def l401_0 : C := .loop [] [4,0,10400] [6] [20200] (rs 25 (q3 (.bin .lss (.g 24) (.g 23))<|qe) <| sq (cd 25 .skip <| .exit 0) <| sq (bk 1 (rs 26 (q1 (.iad 17 (.g 22) (.g 24))<|qJ 17<|qG 6 z_8<|qs 6 17 2 1<|qe) <| r1 28 (qb 6 17<|q1 (.rcall 423 [.g 4,.l 0] 0 4 20200)<|qe))) <| r1 30 (q1 (.bin .add (.g 24) (ci 1))<|qv 24<|qe))
def c401 : C := rs 0 (qB 1 0<|qE 2<|qz 3 0<|qe) <| i1 7 (qb 1 5<|qc 249<|qN<|qe) 9 (rs 0 (qE 2<|qz 3 1<|qe) .ret) <| rs 4 (q3 (.allo [.nslice 1] 10400)<|qe) <| rs 10 (qR 1 1 3<|q1 (.mks 3 1 z_12 [(0,.l 1)])<|q1 (.rcall 421 [.g 4,.l 2] 0 4 20000)<|qe) <| rs 14 (qr 1 4<|qr 1 0<|qh false<|q1 (.mks 1 2 [.int .i64 0] [(0,.l 1),(1,.l 4)])<|q1 (.rcall 422 [.g 4,.l 5] 0 4 20100)<|qe) <| sq (rs 21 (qf 1 0<|q3 (.load (.v 1) none (.l 0))<|qH false<|q3 (.mov (ci 0))<|qe) <| bk 0 l401_0) <| rs 31 (qr 4 0<|q1 (.b2s (.l 1))<|qv 2<|qz 3 0<|qe) .ret
def F401 : F := mF 1 [.t 2,.t 3] none c401
attribute [go_sem] c401 F401
def l404_1 : C := .loop [] [] [] [] (lq 54 (qm 5<|qr 4 8<|qh false<|qQ .lss 0<|qe) 58 2 <| sq (bk 3 (rs 61 (qr 4 8<|qm 5<|qi 36<|qJ 36<|qc 339<|qN<|qe) <| cd 67 (rs 0 (qF 2<|qe) .ret) .skip)) <| r1 59 (qm 5<|qk .add 1<|qv 5<|qe))
def l404_0 : C := .loop [] [] [4] [] (lq 10 (qm 3<|qr 1 1<|qh false<|qQ .lss 0<|qe) 14 0 <| sq (bk 1 (rs 17 (qr 1 1<|qm 3<|qi 9<|qJ 9<|qG 4 z_10<|qs 4 9 5 4<|qe) <| i1 22 (qr 4 8<|qh false<|qk .gtr 10<|yo<|qf 4 1<|qg 2<|ql 4<|qh false<|qk .gtr 40<|zo 4<|yo<|qf 4 1<|qg 6<|ql 4<|qh false<|qk .gtr 40<|zo 11<|yo<|qf 4 1<|qg 4<|ql 4<|qh true<|qk .gtr 8192<|zo 18<|yo<|qf 4 1<|qg 5<|ql 4<|qh true<|qk .gtr 8192<|zO 25<|qe) 53 (rs 0 (qF 2<|qe) .ret) <| rs 0 (qz 5 0<|qe) <| bk 2 l404_1)) <| r1 15 (qm 3<|qk .add 1<|qv 3<|qe))
def c404 : C := rs 0 (qB 1 0<|qF 2<|qe) <| i1 6 (qr 1 1<|qh false<|qK .gtr 6<|qe) 9 (rs 0 (qF 2<|qe) .ret) <| sq (rs 0 (qz 3 0<|qe) <| bk 0 l404_0) <| rs 0 (qT 2<|qe) .ret
def F404 : F := mF 1 [.t 2] none c404
attribute [go_sem] c404 F404
def l405_1 : C := .loop [] [] [] [] (lq 100 (qm 9<|qr 4 8<|qh false<|qQ .lss 0<|qe) 104 2 <| sq (bk 3 (rt 107 (qr 4 8<|qm 9<|qi 36<|qJ 36<|qc 414<|qn<|yo<|qr 4 8<|qm 9<|qi 36<|qg 1<|qj<|qr 1 0<|qq .neq 13<|zO 7<|qe) <| cd 124 (rs 0 (qF 2<|qe) .ret) .skip)) <| r1 105 (qm 9<|qk .add 1<|qv 9<|qe))
def r405_17 : List Op := (qm 3<|qk .add 1<|qv 3<|qe) 23 0 none
def l405_0 : C := .loop [] [] [4,5,7] [] (lq 18 (qm 3<|qr 1 1<|qh false<|qQ .lss 0<|qe) 22 0 <| sq (bk 1 (rs 25 (qr 1 1<|qm 3<|qi 9<|qJ 9<|qG 4 z_10<|qs 4 9 5 4<|qe) <| rs 31 (qf 4 1<|qg 4<|ql 4<|qc 425<|q2 30 (.mov (.l 3))<|qx 0<|qy 1<|qD 5<|q1 (.alloc z_6)<|qs 5 5 7 5<|q3 (.mov (.l 6))<|qe) <| rs 38 (qf 4 1<|qg 5<|ql 4<|qc 425<|q2 37 (.mov (.l 3))<|qx 0<|qy 1<|qD 7<|q1 (.alloc z_6)<|qs 7 5 7 5<|q3 (.mov (.l 6))<|qe) <| i2 44 (qr 4 0<|qk .lss 1<|yo<|qr 4 0<|qk .gtr 3<|zo 3<|yo<|qm 3<|qk .gtr 0<|ya<|qr 1 1<|qm 3<|qk .sub 1<|q1 (.iad 9 (.l 13) (.l 15))<|qg 0<|qj<|qr 4 0<|qq .geq 18<|y0 8<|qa 11<|zo 8<|yo<|qf 4 1<|qg 0<|ql 4<|qr 1 0<|qq .neq 27<|zo 24<|yo<|qR 4 1 7<|qc 37<|qn<|zo 32<|yo<|qm 6<|qn<|zo 38<|yo<|qm 8<|qn<|zO 42<|qe) 89 (rs 0 (qF 2<|qe) .ret) <| i1 90 (qr 4 8<|qh false<|qk .gtr 0<|ya<|qR 4 1 7<|qc 426<|qn<|zA 4<|qe) 99 (rs 0 (qF 2<|qe) .ret) <| rs 0 (qz 9 0<|qe) <| bk 2 l405_1)) <| .region false r405_17)
def r405_18 : List Op := (qT 2<|qe) 0 0 none
def c405 : C := rs 0 (qB 1 0<|qF 2<|qe) <| i1 10 (qr 1 0<|qk .lss 1<|yo<|qr 1 0<|qk .gtr 3<|zO 3<|qe) 17 (rs 0 (qF 2<|qe) .ret) <| sq (rs 0 (qz 3 0<|qe) <| bk 0 l405_0) <| sq (.region false r405_18) .ret
def F405 : F := mF 1 [.t 2] none c405
attribute [go_sem] r405_17 r405_18 c405 F405
def c406 : C := rs 0 (qB 2 0<|qG 4 z_6<|qF 5<|qe) <| rs 11 (qb 2 2<|qm 1<|qd 427<|q2 10 (.mov (.l 2))<|qx 0<|qy 1<|qG 6 z_10<|qs 6 9 6 4<|qV 7 5<|qe) <| i1 16 (qb 2 2<|qc 408<|qn<|yo<|qm 7<|qn<|zo 3<|yo<|qR 6 1 7<|qc 40<|qn<|zO 7<|qe) 28 (rs 29 (q1 (.build z_6 [])<|qt 4 5 0<|qF 5<|qe) .ret) <| rs 31 (qf 6 1<|qg 4<|ql 6<|qc 428<|q2 30 (.mov (.l 3))<|qx 0<|qy 1<|qG 8 z_6<|qs 8 5 7 5<|qD 9<|q1 (.mov (.l 6))<|qe) <| rs 37 (qb 8 5<|qt 4 5 0<|qT 5<|qe) .ret
def F406 : F := mF 2 [.cell 4 (some 5),.t 5] none c406
attribute [go_sem] c406 F406
def l407_0 : C := .loop [] [] [6] [] (rs 15 (q3 (.bin .lss (.g 14) (.g 13))<|qe) <| sq (cd 15 .skip <| .exit 0) <| sq (bk 1 (rs 16 (q1 (.iad 9 (.g 12) (.g 14))<|qJ 9<|qG 6 z_10<|qs 6 9 2 1<|qe) <| r2 18 (qm 4<|qr 6 0<|qR 6 1 7<|qc 51<|qC 429 (ls [2,5])<|q1 (.app 4 36 (.l 0) (.l 6))<|qv 4<|qe))) <| r1 26 (q1 (.bin .add (.g 14) (ci 1))<|qv 14<|qe))
def c407 : C := rs 0 (qB 1 0<|qG 2 z_9<|qS 3 36<|qe) <| rs 4 (q3 (.mko 36)<|qe) <| i1 7 (qb 1 2<|qc 408<|qN<|qe) 9 (rs 10 (qb 1 2<|qt 2 2 0<|qS 3 36<|qe) .ret) <| sq (rs 11 (qf 1 1<|q3 (.load (.v 1) none (.l 0))<|qH false<|q3 (.mov (ci 0))<|qe) <| bk 0 l407_0) <| rs 27 (qb 1 2<|qm 4<|qt 2 2 0<|qw 3<|qe) .ret
def F407 : F := mF 1 [.cell 2 (some 2),.t 3] none c407
attribute [go_sem] c407 F407
def l408_0 : C := .loop [] [] [5] [] (rs 10 (q3 (.bin .lss (.g 9) (.g 8))<|qe) <| sq (cd 10 .skip <| .exit 0) <| sq (bk 1 (rs 11 (q1 (.iad 9 (.g 7) (.g 9))<|qJ 9<|qG 5 z_10<|qs 5 9 2 1<|qe) <| i1 13 (qr 5 0<|qm 3<|qq .leq 1<|yo<|qr 5 0<|qc 368<|qn<|zo 4<|yo<|qf 5 1<|qg 0<|ql 5<|qr 1 0<|qq .neq 13<|zo 10<|yo<|qR 5 1 7<|qc 39<|qn<|zo 18<|yo<|qf 5 1<|qg 4<|ql 5<|qc 430<|qn<|zo 24<|yo<|qf 5 1<|qg 5<|ql 5<|qc 430<|qn<|zO 31<|qe) 50 (rs 0 (qF 2<|qe) .ret) <| i1 51 (qr 5 8<|qh false<|qk .gtr 0<|ya<|qR 5 1 7<|qc 41<|qn<|za 4<|yo<|qr 5 8<|q1 (.fn 431 [.g 1] [1])<|qd 432<|zO 10<|qe) 66 (rs 0 (qF 2<|qe) .ret) <| r1 67 (qr 5 0<|qv 3<|qe))) <| r1 69 (q1 (.bin .add (.g 9) (ci 1))<|qv 9<|qe))
def c408 : C := rs 0 (qB 1 0<|qF 2<|qe) <| rs 0 (qz 3 0<|qe) <| sq (rs 6 (qf 1 1<|q3 (.load (.v 1) none (.l 0))<|qH false<|q3 (.mov (ci 0))<|qe) <| bk 0 l408_0) <| rs 70 (qr 1 0<|qk .geq 1<|ya<|qr 1 0<|qk .leq 3<|za 3<|qv 2<|qe) .ret
def F408 : F := mF 1 [.t 2] none c408
attribute [go_sem] c408 F408
def l409_0 : C := .loop [] [] [] [] (lq 6 (qm 5<|qr 2 1<|qh false<|qQ .lss 0<|qe) 10 0 <| sq (bk 1 (rs 13 (qr 2 1<|qm 5<|qi 9<|qg 0<|qj<|qm 1<|qQ .eql 5<|qe) <| cd 20 (rs 21 (qm 5<|qv 4<|qe) .ret) .skip)) <| r1 11 (qm 5<|qk .add 1<|qv 5<|qe))
def c409 : C := rs 0 (qB 2 0<|qz 4 0<|qe) <| sq (rs 0 (qz 5 0<|qe) <| bk 0 l409_0) <| rs 0 (qz 4 (-1)<|qe) .ret
def F409 : F := mF 2 [.t 4] none c409
attribute [go_sem] c409 F409
def l410_0 : C := .loop [] [] [] [] (lq 5 (qm 4<|qr 1 1<|qh false<|qQ .lss 0<|qe) 9 0 <| sq (bk 1 (rs 12 (qr 1 1<|qm 4<|qi 9<|qg 1<|qJ 7<|q3 (.call (.k 426) .no none [.l 5])<|qe) <| cd 18 (r2 19 (qm 3<|qr 1 1<|qm 4<|qi 9<|qg 0<|qj<|qr 1 1<|qm 4<|qi 9<|qg 1<|qJ 7<|qc 52<|qC 433 (ls [6,13])<|q1 (.app 3 36 (.l 0) (.l 14))<|qv 3<|qe)) .skip)) <| r1 10 (qm 4<|qk .add 1<|qv 4<|qe))
def c410 : C := rs 0 (qB 1 0<|qS 2 36<|qe) <| rs 3 (q3 (.mko 36)<|qe) <| sq (rs 0 (qz 4 0<|qe) <| bk 0 l410_0) <| rs 35 (qm 3<|qv 2<|qe) .ret
def F410 : F := mF 1 [.t 2] none c410
attribute [go_sem] c410 F410
def l411_0 : C := .loop [] [] [] [] (lq 19 (qm 7<|qm 6<|qq .lss 0<|ya<|qm 4<|q1 (.nilc (.l 4))<|qg 1<|ql 10<|qn<|zA 3<|qe) 28 0 <| sq (bk 1 (r2 31 (qr 5 0<|qm 4<|q1 (.rcall 436 [.l 2] 0 10 20300)<|q1 (.mks 17 1 z_8 [(0,.l 3)])<|q1 (.app 36 17 (.l 1) (.l 4))<|qf 5 0<|qs 5 1 6 5<|qe))) <| r1 29 (qm 7<|qk .add 1<|qv 7<|qe))
def c411 : C := rs 0 (qG 2 z_6<|qF 3<|qe) <| rs 8 (qm 0<|q1 (.build z_13 [(0,1,.l 0)])<|q1 (.box (.l 1))<|qv 4<|qe) <| rs 11 (qm 4<|q1 (.rcall 434 [.l 0] 0 10 20000)<|q1 (.build [.nslice 17,.int .i64 0,.int .i64 0,.int .i64 0,.int .i64 0] [(1,3,.l 1)])<|qG 5 z_14<|qs 5 5 3 2<|qe) <| rs 14 (qm 4<|q1 (.rcall 435 [.l 0] 0 10 20100)<|qf 5 4<|qs 5 1 2 1<|qe) <| rs 17 (qm 4<|q1 (.rcall 435 [.l 0] 0 10 20200)<|qv 6<|qe) <| sq (rs 0 (qz 7 0<|qe) <| bk 0 l411_0) <| i1 38 (qm 4<|q1 (.nilc (.l 0))<|qg 1<|ql 10<|yo<|qb 5 5<|q1 (.call (.k 246) .borrow none [.l 5])<|qn<|zo 4<|yo<|qb 5 5<|q1 (.call (.k 424) .borrow none [.l 10])<|qm 0<|qq .neq 11<|zO 9<|qe) 52 (rs 53 (q1 (.build z_6 [])<|qt 2 5 0<|qF 3<|qe) .ret) <| rs 54 (qb 5 5<|qt 2 5 0<|qT 3<|qe) .ret
def F411 : F := mF 1 [.cell 2 (some 5),.t 3] none c411
attribute [go_sem] c411 F411
def c413 : C := rs 0 (qB 3 0<|qB 5 2<|qG 6 z_9<|qS 7 36<|qe) <| i1 14 (qb 3 2<|qc 408<|qn<|yo<|qb 5 36<|qc 341<|qn<|zo 3<|yo<|qm 1<|qk .lss 0<|zo 8<|yo<|qm 1<|qk .gtr 1099511627776<|zo 12<|yo<|qr 5 2<|qr 3 0<|qq .neq 18<|zO 16<|qe) 36 (rs 37 (qb 3 2<|qt 6 2 0<|qS 7 36<|qe) .ret) <| sq (rs 38 (qf 5 0<|q3 (.load (.v 5) none (.l 0))<|qe) <| bk 0 (sq (rs 41 (q1 (.bin .eql (.g 39) (ci 35))<|qv 40<|qe) <| cd 40 .skip <| rs 42 (q1 (.bin .eql (.g 39) (ci 36))<|qv 40<|qe) <| cd 40 .skip <| r1 43 (q1 (.bin .eql (.g 39) (ci 37))<|qv 40<|qe)) <| cd 40 (rs 44 (qb 3 2<|qb 5 36<|qd 437<|qx 0<|qy 1<|qt 6 2 3<|qw 7<|qe) .ret) <| rs 50 (q1 (.bin .eql (.g 39) (ci 33))<|qv 49<|qe) <| cd 49 (rs 51 (qb 3 2<|qb 5 36<|qd 438<|qx 0<|qy 1<|qt 6 2 3<|qw 7<|qe) .ret) .skip)) <| rs 57 (qb 3 2<|qr 5 7<|qC 427 (ls [0,2])<|q2 56 (.mov (.l 3))<|qx 0<|qy 1<|qG 8 z_10<|qs 8 9 7 5<|qV 9 6<|qe) <| i1 63 (qm 9<|qn<|yo<|qR 8 1 7<|qc 40<|qn<|zO 2<|qe) 70 (i1 71 (qr 5 0<|qK .eql 1<|qe) 73 (rt 74 (qb 3 2<|qb 3 2<|qb 5 36<|q1 (.build z_7 [(0,1,.c (.int .i64 10))])<|qC 439 (ls [1,2,3])<|q1 (.mks 36 1 z_15 [(0,.l 4)])<|qt 6 2 0<|qw 7<|qe) .ret) <| rs 80 (qb 3 2<|qt 6 2 0<|qS 7 36<|qe) .ret) <| i1 81 (qR 8 1 7<|q3 (.call (.k 41) .no none [.l 1])<|qe) 83 (rs 84 (qb 3 2<|qt 6 2 0<|qS 7 36<|qe) .ret) <| rs 86 (qf 8 1<|qg 4<|ql 8<|qc 428<|q2 85 (.mov (.l 3))<|qx 0<|qy 1<|qG 10 z_6<|qs 10 5 7 5<|qD 11<|q1 (.mov (.l 6))<|qe) <| sq (rs 92 (qf 5 0<|q3 (.load (.v 5) none (.l 0))<|qe) <| bk 1 (rs 95 (q1 (.bin .eql (.g 93) (ci 1))<|qv 94<|qe) <| cd 94 (rs 96 (qb 3 2<|qb 8 9<|qb 10 5<|qm 1<|qb 5 36<|qC 440 (ls [0,1,2,3,4])<|qx 0<|qy 1<|qt 6 2 6<|qw 7<|qe) .ret) <| rs 105 (q1 (.bin .eql (.g 93) (ci 14))<|qv 104<|qe) <| cd 104 (rt 106 (qb 3 2<|qb 3 2<|qb 10 5<|qb 5 36<|qC 441 (ls [1,2,3])<|qt 6 2 0<|qw 7<|qe) .ret) <| rs 112 (q1 (.bin .eql (.g 93) (ci 30))<|qv 111<|qe) <| cd 111 (i1 113 (qR 5 9 3<|qR 10 1 3<|qC 15 (ls [1,3])<|qK .leq 0<|qe) 118 (rt 119 (qb 3 2<|qr 3 0<|qr 5 7<|qR 10 1 3<|q1 (.build z_15 [(0,1,.c (.int .i64 31)),(1,1,.l 2),(7,1,.l 4),(9,3,.l 6)])<|q1 (.mks 36 1 z_15 [(0,.l 7)])<|qt 6 2 0<|qw 7<|qe) .ret) <| rt 128 (qb 3 2<|qb 8 9<|qb 10 5<|qR 5 9 3<|qC 261 (ls [2,4])<|qr 3 0<|qr 5 7<|qR 5 9 3<|q1 (.build z_15 [(0,1,.c (.int .i64 31)),(1,1,.l 7),(7,1,.l 9),(9,3,.l 11)])<|q1 (.mks 36 1 z_15 [(0,.l 12)])<|qC 442 (ls [0,1,5,13])<|qx 0<|qy 1<|qt 6 2 15<|qw 7<|qe) .ret) <| rs 146 (q1 (.bin .eql (.g 93) (ci 32))<|qv 145<|qe) <| cd 145 (rs 147 (qb 3 2<|qb 8 9<|qb 10 5<|qb 5 36<|qC 443 (ls [0,1,2,3])<|qx 0<|qy 1<|qt 6 2 5<|qw 7<|qe) .ret) .skip)) <| rs 155 (qb 3 2<|qb 10 5<|qb 5 36<|qC 444 (ls [0,1,2])<|q2 154 (.mov (.l 3))<|qx 0<|qy 1<|qY 4 2<|qG 12 z_6<|qG 13 z_15<|qs 12 5 8 5<|qs 13 36 9 6<|qV 9 7<|qe) <| i1 162 (qm 9<|qN<|qe) 163 (rs 164 (qb 3 2<|qt 6 2 0<|qS 7 36<|qe) .ret) <| rt 165 (qr 3 0<|qr 5 7<|qf 13 1<|qs 13 1 4 1<|qf 13 7<|qs 13 1 6 3<|qe) <| rs 171 (qb 3 2<|qb 8 9<|qb 12 5<|qb 13 36<|q1 (.mks 36 1 z_15 [(0,.l 3)])<|qC 442 (ls [0,1,2,4])<|qx 0<|qy 1<|qt 6 2 6<|qw 7<|qe) .ret
def F413 : F := mF 3 [.cell 6 (some 2),.t 7] none c413
attribute [go_sem] c413 F413
def l414_0 : C := .loop [] [] [] [] (lq 118 (qm 3<|qr 1 34<|qh false<|qQ .lss 0<|qe) 122 0 <| sq (bk 1 (rs 125 (qr 1 34<|qm 3<|qi 5<|qg 2<|qj<|qc 445<|qn<|yo<|qr 1 34<|qm 3<|qi 5<|qg 3<|qj<|qc 445<|qn<|zo 8<|yo<|qr 1 34<|qm 3<|qi 5<|qg 4<|qj<|qc 445<|qn<|zO 18<|qe) <| cd 152 (rs 0 (qF 2<|qe) .ret) .skip)) <| r1 123 (qm 3<|qk .add 1<|qv 3<|qe))
def l414_1 : C := .loop [] [] [] [] (lq 153 (qm 4<|qr 1 35<|qh false<|qQ .lss 0<|qe) 157 2 <| sq (bk 3 (rs 160 (qr 1 35<|qm 4<|qi 1<|qj<|qc 445<|qN<|qe) <| cd 166 (rs 0 (qF 2<|qe) .ret) .skip)) <| r1 158 (qm 4<|qk .add 1<|qv 4<|qe))
def c414 : C := rs 0 (qB 1 0<|qF 2<|qe) <| i1 5 (qr 1 0<|qk .lss 1<|yo<|qr 1 0<|qk .gtr 37<|zo 3<|yo<|qf 1 25<|qg 0<|ql 1<|qk .lss 0<|zo 8<|yo<|qf 1 25<|qg 0<|ql 1<|qk .gtr 16<|zo 14<|yo<|qf 1 25<|qg 6<|ql 1<|qh false<|qk .gtr 8<|zo 20<|yo<|qr 1 34<|qh false<|qk .gtr 8<|zo 27<|yo<|qr 1 35<|qh false<|qk .gtr 8<|zO 33<|qe) 43 (rs 0 (qF 2<|qe) .ret) <| i1 44 (qr 1 1<|qc 445<|qn<|yo<|qr 1 2<|qc 445<|qn<|zo 4<|yo<|qr 1 3<|qc 445<|qn<|zo 10<|yo<|qr 1 4<|qc 445<|qn<|zo 16<|yo<|qr 1 5<|qc 445<|qn<|zo 22<|yo<|qr 1 6<|qc 445<|qn<|zo 28<|yo<|qr 1 7<|qc 445<|qn<|zo 34<|yo<|qr 1 8<|qc 445<|qn<|zo 40<|yo<|qf 1 13<|qg 0<|ql 1<|qc 445<|qn<|zo 46<|yo<|qf 1 13<|qg 1<|ql 1<|qc 445<|qn<|zo 53<|yo<|qf 1 13<|qg 2<|ql 1<|qc 445<|qn<|zo 60<|yo<|qf 1 13<|qg 11<|ql 1<|qc 445<|qn<|zO 67<|qe) 117 (rs 0 (qF 2<|qe) .ret) <| sq (rs 0 (qz 3 0<|qe) <| bk 0 l414_0) <| sq (rs 0 (qz 4 0<|qe) <| bk 2 l414_1) <| rs 167 (qR 1 9 3<|qc 24<|ya<|qf 1 13<|qg 7<|q1 (.load (.v 1) (some 3) (.l 5))<|qc 24<|za 3<|ya<|qf 1 25<|qg 1<|q1 (.load (.v 1) (some 3) (.l 11))<|qc 24<|za 9<|qv 2<|qe) .ret
def F414 : F := mF 1 [.t 2] none c414
attribute [go_sem] c414 F414
def c420 : C := rs 0 (qG 6 z_15<|qe) <| rs 7 (qm 0<|qm 1<|qm 2<|q1 (.build z_16 [(0,1,.c (.int .i64 1)),(1,1,.l 2),(2,1,.c (.int .i64 1)),(3,1,.c (.str [97])),(4,1,.c (.str [120]))])<|q1 (.build z_15 [(0,1,.c (.int .i64 1)),(1,1,.l 0),(2,1,.l 1),(7,1,.c (.int .i64 1)),(3,1,.c (.int .i64 1)),(4,1,.c (.int .i64 1)),(13,12,.l 3)])<|qt 6 36 4<|qe) .ret
def F420 : F := mF 3 [.cell 6 (some 36)] none c420
attribute [go_sem] c420 F420
def l421_0 : C := .loop [] [0,0,9000] [5] [] (rs 11 (q3 (.bin .lss (.g 10) (.g 9))<|qe) <| sq (cd 11 .skip <| .exit 0) <| sq (bk 1 (rs 12 (q1 (.iad 3 (.g 8) (.g 10))<|qJ 3<|qG 5 z_12<|qs 5 3 2 1<|qe) <| rs 15 (qb 5 3<|qc 455<|q2 14 (.mov (.l 1))<|qx 0<|qy 1<|qw 6<|qD 7<|q1 (.mov (.l 4))<|qe) <| r1 19 (qm 0<|qm 0<|q1 (.nilc (.l 1))<|qg 0<|ql 0<|qm 6<|q1 (.appd 1 (.l 4) (.l 5))<|q1 (.nilc (.l 0))<|qg 0<|qs 0 1 8 6<|qe))) <| r1 28 (q1 (.bin .add (.g 10) (ci 1))<|qv 10<|qe))
def c421 : C := rs 8 (q3 (.mov (.g 1))<|qH false<|q3 (.mov (ci 0))<|qe) <| bk 0 l421_0
def F421 : F := mF 2 [] none c421
attribute [go_sem] c421 F421
def l422_0 : C := .loop [] [0,0,9000] [] [] (rs 11 (q3 (.bin .lss (.g 10) (.g 9))<|qe) <| sq (cd 11 .skip <| .exit 0) <| sq (bk 1 (rs 12 (q1 (.iad 1 (.g 8) (.g 10))<|qj<|qv 5<|qe) <| rs 15 (qm 5<|qc 456<|q2 14 (.mov (.l 1))<|qx 0<|qy 1<|qw 6<|qD 7<|q1 (.mov (.l 4))<|qe) <| r1 19 (qm 0<|qm 0<|q1 (.nilc (.l 1))<|qg 0<|ql 0<|qm 6<|q1 (.appd 1 (.l 4) (.l 5))<|q1 (.nilc (.l 0))<|qg 0<|qs 0 1 8 6<|qe))) <| r1 28 (q1 (.bin .add (.g 10) (ci 1))<|qv 10<|qe))
def c422 : C := rs 8 (q3 (.mov (.g 1))<|qH false<|q3 (.mov (ci 0))<|qe) <| bk 0 l422_0
def F422 : F := mF 2 [] none c422
attribute [go_sem] c422 F422
def l423_1 : C := .loop [] [0,0,9000] [7] [20600,20700,20800] (rs 71 (q3 (.bin .lss (.g 70) (.g 69))<|qe) <| sq (cd 71 .skip <| .exit 2) <| sq (bk 3 (rs 72 (q1 (.iad 5 (.g 68) (.g 70))<|qJ 5<|qG 7 z_1<|qs 7 5 2 1<|qe) <| rs 74 (qm 0<|qR 7 0 3<|q1 (.mks 3 1 z_12 [(0,.l 2)])<|q1 (.rcall 421 [.l 0,.l 3] 0 0 20600)<|qe) <| rs 79 (qm 0<|qr 7 3<|q1 (.rcall 458 [.l 0,.l 2] 0 0 20700)<|qe) <| r1 83 (qm 0<|qr 7 4<|q1 (.mks 1 1 [.str []] [(0,.l 2)])<|q1 (.rcall 457 [.l 0,.l 3] 0 0 20800)<|qe))) <| r1 88 (q1 (.bin .add (.g 70) (ci 1))<|qv 70<|qe))
def l423_0 : C := .loop [] [0,0,9000] [5,7] [20400,20500,20600,20700,20800] (rs 53 (q3 (.bin .lss (.g 52) (.g 51))<|qe) <| sq (cd 53 .skip <| .exit 0) <| sq (bk 1 (rs 54 (q1 (.iad 2 (.g 50) (.g 52))<|qJ 2<|qG 5 z_5<|qs 5 2 2 1<|qe) <| rs 56 (qm 0<|qr 5 0<|q1 (.mks 1 1 [.str []] [(0,.l 2)])<|q1 (.rcall 457 [.l 0,.l 3] 0 0 20400)<|qe) <| rs 61 (qm 0<|qr 5 1<|qh false<|q1 (.mks 1 1 [.int .i64 0] [(0,.l 3)])<|q1 (.rcall 422 [.l 0,.l 4] 0 0 20500)<|qe) <| rs 67 (qf 5 1<|q3 (.load (.v 5) none (.l 0))<|qH false<|q3 (.mov (ci 0))<|qe) <| bk 2 l423_1)) <| r1 89 (q1 (.bin .add (.g 52) (ci 1))<|qv 52<|qe))
def l423_2 : C := .loop [] [0,0,9000] [9] [21000,21100,21200,21300] (rs 100 (q3 (.bin .lss (.g 99) (.g 98))<|qe) <| sq (cd 100 .skip <| .exit 4) <| sq (bk 5 (rs 101 (q1 (.iad 11 (.g 97) (.g 99))<|qJ 11<|qG 9 z_2<|qs 9 11 2 1<|qe) <| rs 103 (qm 0<|qr 9 0<|qr 9 1<|qf 9 2<|qg 0<|ql 9<|q1 (.mks 1 3 [.int .i64 0] [(0,.l 2),(1,.l 4),(2,.l 7)])<|q1 (.rcall 422 [.l 0,.l 8] 0 0 21000)<|qe) <| rs 113 (qm 0<|qf 9 2<|qg 1<|q1 (.load (.v 9) (some 3) (.l 2))<|q1 (.mks 3 1 z_12 [(0,.l 3)])<|q1 (.rcall 421 [.l 0,.l 4] 0 0 21100)<|qe) <| rs 119 (qm 0<|qf 9 2<|qg 4<|ql 9<|q1 (.rcall 458 [.l 0,.l 3] 0 0 21200)<|qe) <| r1 124 (qm 0<|qf 9 2<|qg 5<|ql 9<|q1 (.mks 1 1 [.str []] [(0,.l 3)])<|q1 (.rcall 457 [.l 0,.l 4] 0 0 21300)<|qe))) <| r1 130 (q1 (.bin .add (.g 99) (ci 1))<|qv 99<|qe))
def c423 : C := rs 0 (qB 3 1<|qe) <| rs 10 (qm 0<|qr 3 0<|qr 3 1<|qr 3 4<|qr 3 13<|qr 3 14<|qr 3 15<|qr 3 16<|q1 (.mks 1 7 [.int .i64 0] [(0,.l 2),(1,.l 4),(2,.l 6),(3,.l 8),(4,.l 10),(5,.l 12),(6,.l 14)])<|q1 (.rcall 422 [.l 0,.l 15] 0 0 20000)<|qe) <| rs 27 (qm 0<|qf 3 2<|qg 0<|ql 3<|qf 3 2<|qg 1<|ql 3<|q1 (.mks 1 2 [.str []] [(0,.l 3),(1,.l 6)])<|q1 (.rcall 457 [.l 0,.l 7] 0 0 20100)<|qe) <| rs 36 (qm 0<|qR 3 6 3<|qR 3 9 3<|q1 (.mks 3 2 z_12 [(0,.l 2),(1,.l 4)])<|q1 (.rcall 421 [.l 0,.l 5] 0 0 20200)<|qe) <| rs 43 (qm 0<|qr 3 5<|qh false<|q1 (.mks 1 1 [.int .i64 0] [(0,.l 3)])<|q1 (.rcall 422 [.l 0,.l 4] 0 0 20300)<|qe) <| sq (rs 49 (qf 3 5<|q3 (.load (.v 3) none (.l 0))<|qH false<|q3 (.mov (ci 0))<|qe) <| bk 0 l423_0) <| rs 90 (qm 0<|qr 3 12<|qh false<|q1 (.mks 1 1 [.int .i64 0] [(0,.l 3)])<|q1 (.rcall 422 [.l 0,.l 4] 0 0 20900)<|qe) <| rs 96 (qf 3 12<|q3 (.load (.v 3) none (.l 0))<|qH false<|q3 (.mov (ci 0))<|qe) <| bk 4 l423_2
def F423 : F := mF 2 [] none c423
attribute [go_sem] c423 F423
def l424_0 : C := .loop [] [] [] [] (lq 17 (qm 4<|qr 1 0<|qh false<|qQ .lss 0<|qe) 21 0 <| sq (bk 1 (r1 24 (qm 3<|qr 1 0<|qm 4<|qi 17<|qJ 17<|qc 461<|qq .add 0<|qv 3<|qe))) <| r1 22 (qm 4<|qk .add 1<|qv 4<|qe))
def c424 : C := rs 0 (qB 1 0<|qE 2<|qe) <| rt 5 (qR 1 1 3<|qc 459<|qr 1 4<|qc 460<|qq .add 2<|qr 1 0<|qh false<|qc 460<|qq .add 6<|qv 3<|qe) <| sq (rs 0 (qz 4 0<|qe) <| bk 0 l424_0) <| rs 32 (qm 3<|qv 2<|qe) .ret
def F424 : F := mF 1 [.t 2] none c424
attribute [go_sem] c424 F424
def c425 : C := rs 0 (qG 2 z_6<|qF 3<|qe) <| rs 4 (qm 0<|qc 411<|qx 0<|qy 1<|qt 2 5 2<|qw 3<|qe) .ret
def F425 : F := mF 1 [.cell 2 (some 5),.t 3] none c425
attribute [go_sem] c425 F425
def c426 : C := rs 0 (qB 1 0<|qF 2<|qe) <| rs 3 (qb 1 7<|qc 38<|ya<|qb 1 7<|qc 42<|qn<|za 2<|qv 2<|qe) .ret
def F426 : F := mF 1 [.t 2] none c426
attribute [go_sem] c426 F426
def c427 : C := rs 0 (qB 2 0<|qB 3 1<|qG 4 z_10<|qF 5<|qe) <| rs 7 (qr 2 1<|q1 (.fn 462 [.g 3] [3])<|qd 463<|qv 6<|qe) <| i1 11 (qm 6<|qK .lss 0<|qe) 12 (rs 13 (q1 (.load (.v 3) none (.g 3))<|qr 2 0<|q1 (.build z_3 [(0,1,.l 2)])<|q1 (.build z_10 [(0,1,.l 0),(1,7,.l 3)])<|qt 4 9 4<|qF 5<|qe) .ret) <| rs 18 (qr 2 1<|qm 6<|qi 9<|qJ 9<|qt 4 9 4<|qT 5<|qe) .ret
def F427 : F := mF 2 [.cell 4 (some 9),.t 5] none c427
attribute [go_sem] c427 F427
def l428_0 : C := .loop [] [] [] [] (rs 17 (q3 (.bin .lss (.g 16) (.g 15))<|qe) <| sq (cd 17 .skip <| .exit 0) <| sq (bk 1 (r2 18 (qr 5 0<|qm 4<|q1 (.rcall 467 [.l 2] 0 8 20300)<|q1 (.mks 17 1 z_8 [(0,.l 3)])<|q1 (.app 23 17 (.l 1) (.l 4))<|qf 5 0<|qs 5 1 6 5<|qe))) <| r1 25 (q1 (.bin .add (.g 16) (ci 1))<|qv 16<|qe))
def c428 : C := rs 0 (qG 2 z_6<|qz 3 0<|qe) <| rs 6 (qm 0<|q1 (.build z_13 [(0,1,.l 0)])<|q1 (.box (.l 1))<|qv 4<|qe) <| rs 9 (qm 4<|q1 (.rcall 464 [.l 0] 0 8 20000)<|qm 4<|q1 (.rcall 465 [.l 2] 0 8 20100)<|q1 (.build [.nslice 17,.int .i64 0,.int .i64 0,.int .i64 0,.int .i64 0] [(1,3,.l 1),(4,1,.l 3)])<|qG 5 z_14<|qs 5 5 5 4<|qe) <| sq (rs 14 (qm 4<|q3 (.rcall 466 [.l 0] 0 8 20200)<|q3 (.mov (ci 0))<|qe) <| bk 0 l428_0) <| i1 26 (qm 4<|q1 (.nilc (.l 0))<|qg 1<|ql 8<|yo<|qm 4<|q1 (.nilc (.l 5))<|qg 0<|ql 8<|q1 (.bin .neq (.l 8) (.c (.str [])))<|zo 4<|yo<|qb 5 5<|q1 (.call (.k 249) .borrow none [.l 12])<|qn<|zO 11<|qe) 41 (rs 42 (q1 (.build z_6 [])<|qt 2 5 0<|qz 3 3<|qe) .ret) <| rs 43 (qb 5 5<|qt 2 5 0<|qz 3 0<|qe) .ret
def F428 : F := mF 1 [.cell 2 (some 5),.t 3] none c428
attribute [go_sem] c428 F428
def l429_0 : C := .loop [] [] [7] [] (rs 11 (q3 (.bin .lss (.g 10) (.g 9))<|qe) <| sq (cd 11 .skip <| .exit 0) <| sq (bk 1 (rs 12 (q1 (.iad 7 (.g 8) (.g 10))<|qJ 7<|qG 7 z_4<|qs 7 7 2 1<|qe) <| r1 14 (qm 5<|qr 7 0<|q1 (.bin .add (ci 35) (.l 2))<|qk .sub 1<|qr 7 1<|qr 7 2<|qm 0<|qr 7 3<|qr 7 4<|qr 7 5<|qr 7 6<|q1 (.build z_15 [(0,1,.l 4),(1,1,.l 6),(2,1,.l 8),(7,1,.l 9),(4,1,.l 11),(8,1,.l 13),(35,1,.l 15),(12,1,.l 17)])<|q1 (.mks 36 1 z_15 [(0,.l 18)])<|q1 (.app 5 36 (.l 0) (.l 19))<|qv 5<|qe))) <| r1 35 (q1 (.bin .add (.g 10) (ci 1))<|qv 10<|qe))
def c429 : C := rs 0 (qS 4 36<|qe) <| rs 5 (q3 (.mko 36)<|qe) <| sq (rs 8 (q3 (.mov (.g 1))<|qH false<|q3 (.mov (ci 0))<|qe) <| bk 0 l429_0) <| rs 36 (qm 5<|qv 4<|qe) .ret
def F429 : F := mF 2 [.t 4] (some 0) c429
attribute [go_sem] c429 F429
def c430 : C := rs 0 (qF 2<|qe) <| rs 6 (qm 0<|qc 428<|q2 5 (.mov (.l 1))<|qx 0<|qy 1<|qD 3<|q1 (.alloc z_6)<|qs 3 5 5 3<|q3 (.mov (.l 4))<|qe) <| rs 10 (qm 4<|qk .eql 0<|qv 2<|qe) .ret
def F430 : F := mF 1 [.t 2] none c430
attribute [go_sem] c430 F430
def c431 : C := rs 0 (qB 2 0<|qF 3<|qe) <| rs 4 (qb 2 36<|qc 341<|qn<|yo<|qr 2 1<|qf 1 0<|qj<|qq .neq 5<|zo 3<|qv 3<|qe) .ret
def F431 : F := mF 2 [.t 3] none c431
attribute [go_sem] c431 F431
def c432 : C := rs 0 (qF 4<|qe) <| rs 5 (qm 0<|qm 1<|qd 468<|qk .geq 0<|qv 4<|qe) .ret
def F432 : F := mF 2 [.t 4] none c432
attribute [go_sem] c432 F432
def l433_0 : C := .loop [] [] [7] [] (lq 8 (qm 6<|qm 1<|qh false<|qQ .lss 0<|qe) 11 0 <| sq (bk 1 (rs 14 (qm 1<|qm 6<|qi 7<|qJ 7<|qG 7 z_4<|qs 7 7 4 3<|qe) <| r1 18 (qm 5<|qr 7 0<|q1 (.bin .add (ci 34) (.l 2))<|qr 7 1<|qr 7 2<|qm 0<|qr 7 3<|qr 7 4<|qr 7 5<|qr 7 6<|q1 (.build z_15 [(0,1,.l 3),(1,1,.l 5),(2,1,.l 7),(7,1,.l 8),(4,1,.l 10),(8,1,.l 12),(35,1,.l 14),(12,1,.l 16)])<|q1 (.mks 36 1 z_15 [(0,.l 17)])<|q1 (.app 5 36 (.l 0) (.l 18))<|qv 5<|qe))) <| r1 12 (qm 6<|qk .add 1<|qv 6<|qe))
def c433 : C := rs 0 (qS 4 36<|qe) <| rs 5 (q3 (.mko 36)<|qe) <| sq (rs 0 (qz 6 0<|qe) <| bk 0 l433_0) <| rs 38 (qm 5<|qv 4<|qe) .ret
def F433 : F := mF 2 [.t 4] (some 0) c433
attribute [go_sem] c433 F433
def c434 : C := rs 0 (qG 2 z_12<|qe) <| rs 7 (qm 0<|q1 (.nilc (.l 0))<|qg 0<|ql 0<|qc 469<|q2 6 (.mov (.l 4))<|qx 0<|qy 1<|qY 5 2<|qG 3 z_12<|qs 3 3 9 6<|qV 4 7<|qV 5 8<|qe) <| rs 15 (qm 0<|qm 0<|q1 (.nilc (.l 1))<|qg 1<|ql 0<|yo<|qm 5<|qk .neq 0<|zo 5<|q1 (.nilc (.l 0))<|qg 1<|qs 0 1 10 8<|qe) <| rs 26 (qm 0<|qm 4<|q1 (.nilc (.l 0))<|qg 0<|qs 0 1 3 1<|qe) <| rs 30 (qb 3 3<|qt 2 3 0<|qe) .ret
def F434 : F := mF 1 [.cell 2 (some 3)] none c434
attribute [go_sem] c434 F434
def c435 : C := rs 0 (qz 2 0<|qe) <| rs 7 (qm 0<|q1 (.nilc (.l 0))<|qg 0<|ql 0<|qc 470<|q2 6 (.mov (.l 4))<|qx 0<|qy 1<|qY 5 2<|qV 3 6<|qV 4 7<|qV 5 8<|qe) <| rs 15 (qm 0<|qm 0<|q1 (.nilc (.l 1))<|qg 1<|ql 0<|yo<|qm 5<|qk .neq 0<|zo 5<|q1 (.nilc (.l 0))<|qg 1<|qs 0 1 10 8<|qe) <| rs 26 (qm 0<|qm 4<|q1 (.nilc (.l 0))<|qg 0<|qs 0 1 3 1<|qe) <| rs 30 (qm 3<|qv 2<|qe) .ret
def F435 : F := mF 1 [.t 2] none c435
attribute [go_sem] c435 F435
def l436_1 : C := .loop [] [] [9] [] (lq 66 (qm 8<|qm 7<|qq .lss 0<|ya<|qm 0<|q1 (.nilc (.l 4))<|qg 1<|ql 0<|qn<|zA 3<|qe) 75 2 <| sq (bk 3 (rs 78 (qm 0<|q1 (.rcall 434 [.l 0] 0 0 21400)<|q1 (.build z_1 [(0,3,.l 1)])<|qG 9 z_1<|qs 9 5 3 2<|qe) <| rs 81 (qm 0<|q1 (.rcall 472 [.l 0] 0 0 21500)<|qf 9 3<|qs 9 1 2 1<|qe) <| rs 84 (qm 0<|q1 (.rcall 471 [.l 0] 0 0 21600)<|qf 9 4<|qs 9 1 2 1<|qe) <| r1 87 (qr 6 1<|qb 9 5<|q1 (.mks 5 1 z_1 [(0,.l 2)])<|q1 (.app 91 5 (.l 1) (.l 3))<|qf 6 1<|qs 6 1 5 4<|qe))) <| r1 76 (qm 8<|qk .add 1<|qv 8<|qe))
def l436_0 : C := .loop [] [] [6,9] [91] (lq 49 (qm 5<|qm 4<|qq .lss 0<|ya<|qm 0<|q1 (.nilc (.l 4))<|qg 1<|ql 0<|qn<|zA 3<|qe) 58 0 <| sq (bk 1 (rs 61 (qm 0<|q1 (.rcall 471 [.l 0] 0 0 21200)<|q1 (.build [.str [],.nslice 5] [(0,1,.l 1)])<|qG 6 z_17<|qs 6 2 3 2<|qe) <| rs 64 (qm 0<|q1 (.rcall 435 [.l 0] 0 0 21300)<|qv 7<|qe) <| sq (rs 0 (qz 8 0<|qe) <| bk 2 l436_1) <| r1 93 (qr 3 5<|q1 (.ldf 91 6 2 (.g 6))<|q1 (.mks 2 1 z_5 [(0,.l 2)])<|q1 (.app 97 2 (.l 1) (.l 3))<|qf 3 5<|qs 3 1 5 4<|qe))) <| r1 59 (qm 5<|qk .add 1<|qv 5<|qe))
def l436_2 : C := .loop [] [] [11] [] (lq 101 (qm 10<|qm 4<|qq .lss 0<|ya<|qm 0<|q1 (.nilc (.l 4))<|qg 1<|ql 0<|qn<|zA 3<|qe) 110 4 <| sq (bk 5 (rs 113 (qm 0<|q1 (.rcall 435 [.l 0] 0 0 21800)<|q1 (.build z_2 [(0,1,.l 1)])<|qG 11 z_2<|qs 11 11 3 2<|qe) <| rs 116 (qm 0<|q1 (.rcall 435 [.l 0] 0 0 21900)<|qf 11 1<|qs 11 1 2 1<|qe) <| rs 119 (qm 0<|q1 (.rcall 435 [.l 0] 0 0 22000)<|qf 11 2<|qg 0<|qs 11 1 3 1<|qe) <| rs 123 (qm 0<|q1 (.rcall 434 [.l 0] 0 0 22100)<|qf 11 2<|qg 1<|qs 11 3 3 1<|qe) <| rs 127 (qm 0<|q1 (.rcall 472 [.l 0] 0 0 22200)<|qf 11 2<|qg 4<|qs 11 1 3 1<|qe) <| rs 131 (qm 0<|q1 (.rcall 471 [.l 0] 0 0 22300)<|qf 11 2<|qg 5<|qs 11 1 3 1<|qe) <| r1 135 (qr 3 12<|qb 11 11<|q1 (.mks 11 1 z_2 [(0,.l 2)])<|q1 (.app 139 11 (.l 1) (.l 3))<|qf 3 12<|qs 3 1 5 4<|qe))) <| r1 111 (qm 10<|qk .add 1<|qv 10<|qe))
def c436 : C := rs 0 (qG 2 z_8<|qe) <| rs 12 (qm 0<|q1 (.rcall 435 [.l 0] 0 0 20000)<|q1 (.build [.int .i64 0,.int .i64 0,.str [],.str [],.int .i64 0,.nslice 2,.int .i64 0,.int .i64 0,.int .i64 0,.int .i64 0,.int .i64 0,.int .i64 0,.nslice 11,.int .i64 0,.int .i64 0,.int .i64 0,.int .i64 0] [(0,1,.l 1)])<|qG 3 z_18<|qs 3 17 3 2<|qe) <| rs 15 (qm 0<|q1 (.rcall 435 [.l 0] 0 0 20100)<|qf 3 1<|qs 3 1 2 1<|qe) <| rs 18 (qm 0<|q1 (.rcall 435 [.l 0] 0 0 20200)<|qf 3 4<|qs 3 1 2 1<|qe) <| rs 21 (qm 0<|q1 (.rcall 435 [.l 0] 0 0 20300)<|qf 3 13<|qs 3 1 2 1<|qe) <| rs 24 (qm 0<|q1 (.rcall 435 [.l 0] 0 0 20400)<|qf 3 14<|qs 3 1 2 1<|qe) <| rs 27 (qm 0<|q1 (.rcall 435 [.l 0] 0 0 20500)<|qf 3 15<|qs 3 1 2 1<|qe) <| rs 30 (qm 0<|q1 (.rcall 435 [.l 0] 0 0 20600)<|qf 3 16<|qs 3 1 2 1<|qe) <| rs 33 (qm 0<|q1 (.rcall 471 [.l 0] 0 0 20700)<|qf 3 2<|qg 0<|qs 3 1 3 1<|qe) <| rs 37 (qm 0<|q1 (.rcall 471 [.l 0] 0 0 20800)<|qf 3 2<|qg 1<|qs 3 1 3 1<|qe) <| rs 41 (qm 0<|q1 (.rcall 434 [.l 0] 0 0 20900)<|qf 3 6<|qs 3 3 2 1<|qe) <| rs 44 (qm 0<|q1 (.rcall 434 [.l 0] 0 0 21000)<|qf 3 9<|qs 3 3 2 1<|qe) <| rs 47 (qm 0<|q1 (.rcall 435 [.l 0] 0 0 21100)<|qv 4<|qe) <| sq (rs 0 (qz 5 0<|qe) <| bk 0 l436_0) <| rs 99 (qm 0<|q1 (.rcall 435 [.l 0] 0 0 21700)<|qv 4<|qe) <| sq (rs 0 (qz 10 0<|qe) <| bk 4 l436_2) <| rs 141 (qb 3 17<|qt 2 17 0<|qe) .ret
def F436 : F := mF 1 [.cell 2 (some 17)] none c436
attribute [go_sem] c436 F436
def c439 : C := rs 0 (qB 3 0<|qB 4 1<|qB 5 2<|qG 6 z_15<|qe) <| rs 7 (qr 3 0<|qr 4 1<|qr 4 7<|qf 4 13<|qg 0<|ql 4<|qf 4 13<|qg 1<|ql 4<|q1 (.build z_16 [(0,1,.l 8),(1,1,.l 11)])<|qb 5 9<|q1 (.build z_15 [(0,1,.c (.int .i64 2)),(1,1,.l 1),(2,1,.l 3),(7,1,.l 5),(13,12,.l 12),(25,9,.l 13)])<|qt 6 36 14<|qe) .ret
def F439 : F := mF 3 [.cell 6 (some 36)] none c439
attribute [go_sem] c439 F439
def c440 : C := rs 0 (qB 5 0<|qB 6 1<|qB 7 2<|qB 9 4<|qG 10 z_9<|qS 11 36<|qe) <| rs 18 (qR 7 1 3<|qG 12 z_12<|qs 12 3 2 1<|qe) <| rs 20 (qr 5 0<|qf 12 2<|qs 12 1 2 1<|qe) <| rs 24 (qb 12 3<|q1 (.build z_12 [(0,3,.l 0)])<|qm 3<|qd 474<|q2 23 (.mov (.l 3))<|qx 0<|qy 1<|qY 4 2<|qD 13<|q1 (.alloc z_12)<|q3 (.alloc z_12)<|qs 13 3 8 5<|qs 14 3 9 6<|q3 (.mov (.l 7))<|qe) <| i1 31 (qm 15<|qK .neq 0<|qe) 32 (rt 33 (qb 5 2<|qb 5 2<|qb 9 36<|qm 15<|q1 (.build z_7 [(0,1,.l 3)])<|qC 439 (ls [1,2,4])<|q1 (.mks 36 1 z_15 [(0,.l 5)])<|qt 10 2 0<|qw 11<|qe) .ret) <| rs 41 (qb 7 5<|qr 9 3<|qr 9 4<|qR 9 13 12<|qb 14 3<|qm 3<|qC 240 (ls [0,2,4,6,7,8])<|q2 40 (.mov (.l 9))<|qx 0<|qy 1<|qG 16 z_6<|qG 17 z_7<|qs 16 5 13 11<|qs 17 9 14 12<|qe) <| i1 53 (qr 17 0<|qk .neq 0<|ya<|qr 17 0<|qk .neq 15<|zA 3<|qe) 60 (rt 61 (qb 5 2<|qb 5 2<|qb 9 36<|qb 17 9<|qC 439 (ls [1,2,3])<|q1 (.mks 36 1 z_15 [(0,.l 4)])<|qt 10 2 0<|qw 11<|qe) .ret) <| rt 67 (qb 5 2<|qb 6 9<|qb 16 5<|qb 5 2<|qb 9 36<|qb 17 9<|qC 439 (ls [3,4,5])<|q1 (.mks 36 1 z_15 [(0,.l 6)])<|qC 442 (ls [0,1,2,7])<|qx 0<|qy 1<|qt 10 2 9<|qw 11<|qe) .ret
def F440 : F := mF 5 [.cell 10 (some 2),.t 11] none c440
attribute [go_sem] c440 F440
def c442 : C := rs 0 (qB 4 0<|qB 5 1<|qB 6 2<|qG 8 z_9<|qS 9 36<|qe) <| rs 17 (qb 6 5<|qc 401<|q2 16 (.mov (.l 1))<|qx 0<|qy 1<|qw 10<|qD 11<|q1 (.mov (.l 4))<|qe) <| rs 22 (qR 5 1 7<|qm 10<|qd 47<|q2 21 (.mov (.l 3))<|qx 0<|qy 1<|qY 4 2<|qG 12 z_3<|qs 12 7 8 5<|qV 13 6<|qV 14 7<|qe) <| i1 29 (qm 14<|qK .neq 0<|qe) 30 (rs 31 (qb 4 2<|qt 8 2 0<|qS 9 36<|qe) .ret) <| rs 32 (qr 5 0<|qm 13<|q1 (.call (.k 429) .no (some 0) [.l 1,.l 2])<|qv 15<|qe) <| rs 36 (qb 12 7<|qm 3<|qf 5 1<|qs 5 7 2 0<|qf 5 8<|qs 5 1 4 1<|qe) <| i1 40 (qb 12 7<|qc 41<|qN<|qe) 42 (r1 43 (qm 15<|qm 3<|q1 (.app 35 36 (.l 0) (.l 1))<|qv 15<|qf 5 8<|q5 (.store (.v 5) 1 (.l 4) (.c (.slice 36 [])))<|qe)) <| rs 47 (qb 4 2<|qb 5 9<|qd 473<|qm 15<|qt 8 2 2<|qw 9<|qe) .ret
def F442 : F := mF 4 [.cell 8 (some 2),.t 9] none c442
attribute [go_sem] c442 F442
def c445 : C := rs 0 (qF 2<|qe) <| rs 3 (qm 0<|qk .geq 0<|ya<|qm 0<|qk .leq 1099511627776<|za 2<|qv 2<|qe) .ret
def F445 : F := mF 1 [.t 2] none c445
attribute [go_sem] c445 F445
def c455 : C := rs 0 (qB 1 0<|qE 2<|qz 3 0<|qe) <| i1 4 (qb 1 3<|qc 28<|qN<|qe) 6 (rs 0 (qE 2<|qz 3 1<|qe) .ret) <| rs 7 (qr 1 0<|qr 1 1<|qr 1 2<|q1 (.mks 1 3 [.int .i64 0] [(0,.l 1),(1,.l 3),(2,.l 5)])<|qc 483<|qx 0<|qy 1<|qw 2<|qw 3<|qe) .ret
def F455 : F := mF 1 [.t 2,.t 3] none c455
attribute [go_sem] c455 F455
def l456_0 : C := .loop [] [] [] [] (lq 7 (qm 0<|qK .geq 128<|qe) 8 0 <| bk 1 (rs 9 (qm 4<|qm 0<|q1 (.conv (.int .u8) (.l 1))<|q1 (.bin .or (.l 2) (.c (.int .u8 128)))<|q1 (.mks 1 1 [.int .u8 0] [(0,.l 3)])<|q1 (.app 4 1 (.l 0) (.l 4))<|qv 4<|qe) <| r1 15 (qm 0<|q1 (.sh .shr (.l 0) (.c (.int .u64 7)))<|qv 0<|qe)))
def c456 : C := rs 0 (qE 2<|qz 3 0<|qe) <| i1 5 (qm 0<|qK .lss 0<|qe) 6 (rs 0 (qE 2<|qz 3 1<|qe) .ret) <| rs 4 (q3 (.mko 1)<|qe) <| sq (bk 0 l456_0) <| rs 17 (qm 4<|qm 0<|q1 (.conv (.int .u8) (.l 1))<|q1 (.mks 1 1 [.int .u8 0] [(0,.l 2)])<|q1 (.app 4 1 (.l 0) (.l 3))<|q1 (.b2s (.l 4))<|qv 2<|qz 3 0<|qe) .ret
def F456 : F := mF 1 [.t 2,.t 3] none c456
attribute [go_sem] c456 F456
def l457_0 : C := .loop [] [0,0,9000] [] [] (rs 9 (q3 (.bin .lss (.g 8) (.g 7))<|qe) <| sq (cd 9 .skip <| .exit 0) <| sq (bk 1 (rs 10 (q1 (.iad 1 (.g 6) (.g 8))<|qj<|qv 5<|qe) <| r2 12 (qm 0<|qm 0<|q1 (.nilc (.l 1))<|qg 0<|ql 0<|qm 5<|qc 484<|q1 (.appd 1 (.l 4) (.l 6))<|q1 (.nilc (.l 0))<|qg 0<|qs 0 1 9 7<|qe))) <| r1 22 (q1 (.bin .add (.g 8) (ci 1))<|qv 8<|qe))
def c457 : C := rs 6 (q3 (.mov (.g 1))<|qH false<|q3 (.mov (ci 0))<|qe) <| bk 0 l457_0
def F457 : F := mF 2 [] none c457
attribute [go_sem] c457 F457
def c458 : C := r2 4 (qm 0<|qm 0<|q1 (.nilc (.l 1))<|qg 0<|ql 0<|qm 1<|qc 485<|q1 (.appd 1 (.l 4) (.l 6))<|q1 (.nilc (.l 0))<|qg 0<|qs 0 1 9 7<|qe)
def F458 : F := mF 2 [] none c458
attribute [go_sem] c458 F458
def c459 : C := rs 0 (qB 1 0<|qE 2<|qe) <| rs 3 (qb 1 3<|qc 486<|qv 2<|qe) .ret
def F459 : F := mF 1 [.t 2] none c459
attribute [go_sem] c459 F459
def c460 : C := rs 0 (qE 2<|qe) <| rs 6 (qm 0<|qc 487<|q2 5 (.mov (.l 1))<|qx 0<|qy 1<|qw 3<|qD 4<|q1 (.mov (.l 4))<|qe) <| rs 10 (qm 3<|qv 2<|qe) .ret
def F460 : F := mF 1 [.t 2] none c460
attribute [go_sem] c460 F460
def l461_1 : C := .loop [] [] [] [] (lq 81 (qm 6<|qr 5 1<|qh false<|qQ .lss 0<|qe) 85 2 <| sq (bk 3 (r2 88 (qm 3<|qr 5 1<|qm 6<|qi 5<|qg 0<|qJ 3<|qc 459<|qq .add 0<|qr 5 1<|qm 6<|qi 5<|qg 3<|qj<|qc 489<|qq .add 8<|qr 5 1<|qm 6<|qi 5<|qg 4<|qj<|qc 488<|qq .add 16<|qv 3<|qe))) <| r1 86 (qm 6<|qk .add 1<|qv 6<|qe))
def l461_0 : C := .loop [] [] [5] [] (lq 59 (qm 4<|qr 1 5<|qh false<|qQ .lss 0<|qe) 63 0 <| sq (bk 1 (rs 66 (qr 1 5<|qm 4<|qi 2<|qJ 2<|qG 5 z_5<|qs 5 2 5 4<|qe) <| rt 71 (qm 3<|qr 5 0<|qc 488<|qq .add 0<|qr 5 1<|qh false<|qc 460<|qq .add 4<|qv 3<|qe) <| rs 0 (qz 6 0<|qe) <| bk 2 l461_1)) <| r1 64 (qm 4<|qk .add 1<|qv 4<|qe))
def l461_2 : C := .loop [] [] [8] [] (lq 119 (qm 7<|qr 1 12<|qh false<|qQ .lss 0<|qe) 123 4 <| sq (bk 5 (rs 126 (qr 1 12<|qm 7<|qi 11<|qJ 11<|qG 8 z_2<|qs 8 11 5 4<|qe) <| r2 131 (qm 3<|qr 8 0<|qc 460<|qq .add 0<|qr 8 1<|qc 460<|qq .add 4<|qf 8 2<|qg 0<|ql 8<|qc 460<|qq .add 8<|qf 8 2<|qg 1<|q1 (.load (.v 8) (some 3) (.l 15))<|qc 459<|qq .add 13<|qf 8 2<|qg 4<|ql 8<|qc 489<|qq .add 18<|qf 8 2<|qg 5<|ql 8<|qc 488<|qq .add 23<|qv 3<|qe))) <| r1 124 (qm 7<|qk .add 1<|qv 7<|qe))
def c461 : C := rs 0 (qB 1 0<|qE 2<|qe) <| rt 9 (qr 1 0<|qc 460<|qr 1 1<|qc 460<|qq .add 2<|qr 1 4<|qc 460<|qq .add 6<|qr 1 13<|qc 460<|qq .add 10<|qr 1 14<|qc 460<|qq .add 14<|qr 1 15<|qc 460<|qq .add 18<|qr 1 16<|qc 460<|qq .add 22<|qf 1 2<|qg 0<|ql 1<|qc 488<|qq .add 26<|qf 1 2<|qg 1<|ql 1<|qc 488<|qq .add 31<|qR 1 6 3<|qc 459<|qq .add 36<|qR 1 9 3<|qc 459<|qq .add 40<|qr 1 5<|qh false<|qc 460<|qq .add 44<|qv 3<|qe) <| sq (rs 0 (qz 4 0<|qe) <| bk 0 l461_0) <| rs 113 (qm 3<|qr 1 12<|qh false<|qc 460<|qq .add 0<|qv 3<|qe) <| sq (rs 0 (qz 7 0<|qe) <| bk 4 l461_2) <| rs 160 (qm 3<|qv 2<|qe) .ret
def F461 : F := mF 1 [.t 2] none c461
attribute [go_sem] c461 F461
def c462 : C := rs 0 (qB 2 0<|qF 3<|qe) <| rs 4 (qr 2 0<|q1 (.load (.c) none (.g 1))<|qq .eql 1<|qv 3<|qe) .ret
def F462 : F := mF 2 [.t 3] none c462
attribute [go_sem] c462 F462
def l463_0 : C := .loop [] [] [] [] (rs 9 (q3 (.bin .lss (.g 8) (.g 7))<|qe) <| sq (cd 9 .skip <| .exit 0) <| sq (bk 1 (rs 10 (qm 8<|qv 5<|qe) <| rs 11 (qm 1<|qm 0<|qm 5<|qi 9<|qJ 9<|q3 (.call (.v (.l 0)) .no none [.l 4])<|qe) <| cd 16 (rs 17 (qm 5<|qv 4<|qe) .ret) .skip)) <| r1 18 (q1 (.bin .add (.g 8) (ci 1))<|qv 8<|qe))
def c463 : C := rs 0 (qz 4 0<|qe) <| sq (rs 6 (qm 0<|qH false<|q3 (.mov (ci 0))<|qe) <| bk 0 l463_0) <| rs 0 (qz 4 (-1)<|qe) .ret
def F463 : F := mF 2 [.t 4] none c463
attribute [go_sem] c463 F463
def c464 : C := rs 0 (qG 2 z_12<|qe) <| rs 7 (qm 0<|q1 (.nilc (.l 0))<|qg 0<|ql 0<|qc 490<|q2 6 (.mov (.l 4))<|qx 0<|qy 1<|qY 5 2<|qG 3 z_12<|qs 3 3 9 6<|qV 4 7<|qV 5 8<|qe) <| i1 15 (qm 0<|q1 (.nilc (.l 0))<|qg 1<|ql 0<|yo<|qm 5<|qk .neq 0<|zO 4<|qe) 22 (rs 23 (qm 0<|q1 (.nilc (.l 0))<|qg 1<|q5 (.store (.v 0) 1 (.l 2) (cb true))<|qe) <| rs 26 (q1 (.build z_12 [])<|qt 2 3 0<|qe) .ret) <| rs 27 (qm 0<|qm 4<|q1 (.nilc (.l 0))<|qg 0<|qs 0 1 3 1<|qe) <| rs 31 (qb 3 3<|qt 2 3 0<|qe) .ret
def F464 : F := mF 1 [.cell 2 (some 3)] none c464
attribute [go_sem] c464 F464
def c465 : C := rs 0 (qz 2 0<|qe) <| rs 7 (qm 0<|q1 (.nilc (.l 0))<|qg 0<|ql 0<|qc 491<|q2 6 (.mov (.l 4))<|qx 0<|qy 1<|qY 5 2<|qV 3 6<|qV 4 7<|qV 5 8<|qe) <| i1 15 (qm 0<|q1 (.nilc (.l 0))<|qg 1<|ql 0<|yo<|qm 5<|qk .neq 0<|zO 4<|qe) 22 (rs 23 (qm 0<|q1 (.nilc (.l 0))<|qg 1<|q5 (.store (.v 0) 1 (.l 2) (cb true))<|qe) <| rs 0 (qz 2 0<|qe) .ret) <| rs 26 (qm 0<|qm 4<|q1 (.nilc (.l 0))<|qg 0<|qs 0 1 3 1<|qe) <| rs 30 (qm 3<|qv 2<|qe) .ret
def F465 : F := mF 1 [.t 2] none c465
attribute [go_sem] c465 F465
def c466 : C := rs 0 (qz 2 0<|qe) <| rs 4 (qm 0<|q1 (.rcall 465 [.l 0] 0 0 20000)<|qv 3<|qe) <| i1 6 (qm 3<|qm 0<|q1 (.nilc (.l 1))<|qg 0<|ql 0<|qh true<|qQ .gtr 0<|qe) 12 (rs 13 (qm 0<|q1 (.nilc (.l 0))<|qg 1<|q5 (.store (.v 0) 1 (.l 2) (cb true))<|qe) <| rs 0 (qz 2 0<|qe) .ret) <| rs 16 (qm 3<|qv 2<|qe) .ret
def F466 : F := mF 1 [.t 2] none c466
attribute [go_sem] c466 F466
def l467_1 : C := .loop [] [] [] [] (rs 51 (q3 (.bin .lss (.g 50) (.g 49))<|qe) <| sq (cd 51 .skip <| .exit 2) <| sq (bk 3 (r2 52 (qr 4 1<|qm 0<|q1 (.rcall 464 [.l 2] 0 0 21400)<|qm 0<|q1 (.rcall 493 [.l 4] 0 0 21500)<|qm 0<|q1 (.rcall 492 [.l 6] 0 0 21600)<|q1 (.build z_1 [(0,3,.l 3),(3,1,.l 5),(4,1,.l 7)])<|q1 (.mks 5 1 z_1 [(0,.l 8)])<|q1 (.app 62 5 (.l 1) (.l 9))<|qf 4 1<|qs 4 1 11 10<|qe))) <| r1 64 (q1 (.bin .add (.g 50) (ci 1))<|qv 50<|qe))
def l467_0 : C := .loop [] [] [4] [62] (rs 44 (q3 (.bin .lss (.g 43) (.g 42))<|qe) <| sq (cd 44 .skip <| .exit 0) <| sq (bk 1 (rs 45 (qm 0<|q1 (.rcall 492 [.l 0] 0 0 21200)<|q1 (.build [.str [],.nslice 5] [(0,1,.l 1)])<|qG 4 z_17<|qs 4 2 3 2<|qe) <| sq (rs 48 (qm 0<|q3 (.rcall 466 [.l 0] 0 0 21300)<|q3 (.mov (ci 0))<|qe) <| bk 2 l467_1) <| r1 65 (qr 3 5<|q1 (.ldf 62 4 2 (.g 4))<|q1 (.mks 2 1 z_5 [(0,.l 2)])<|q1 (.app 69 2 (.l 1) (.l 3))<|qf 3 5<|qs 3 1 5 4<|qe))) <| r1 71 (q1 (.bin .add (.g 43) (ci 1))<|qv 43<|qe))
def l467_2 : C := .loop [] [] [5] [] (rs 75 (q3 (.bin .lss (.g 74) (.g 73))<|qe) <| sq (cd 75 .skip <| .exit 4) <| sq (bk 5 (rs 76 (qm 0<|q1 (.rcall 465 [.l 0] 0 0 21800)<|qm 0<|q1 (.rcall 465 [.l 2] 0 0 21900)<|q1 (.build z_2 [(0,1,.l 1),(1,1,.l 3)])<|qG 5 z_2<|qs 5 11 5 4<|qe) <| rs 81 (qm 0<|q1 (.rcall 465 [.l 0] 0 0 22000)<|qm 0<|q1 (.rcall 464 [.l 2] 0 0 22100)<|qm 0<|q1 (.rcall 493 [.l 4] 0 0 22200)<|qm 0<|q1 (.rcall 492 [.l 6] 0 0 22300)<|q1 (.build z_7 [(0,1,.l 1),(1,3,.l 3),(4,1,.l 5),(5,1,.l 7)])<|qf 5 2<|qs 5 9 9 8<|qe) <| r1 91 (qr 3 12<|qb 5 11<|q1 (.mks 11 1 z_2 [(0,.l 2)])<|q1 (.app 95 11 (.l 1) (.l 3))<|qf 3 12<|qs 3 1 5 4<|qe))) <| r1 97 (q1 (.bin .add (.g 74) (ci 1))<|qv 74<|qe))
def c467 : C := rs 0 (qG 2 z_8<|qe) <| rs 0 (qG 3 z_18<|qe) <| rs 6 (qm 0<|q1 (.rcall 465 [.l 0] 0 0 20000)<|qm 0<|q1 (.rcall 465 [.l 2] 0 0 20100)<|qm 0<|q1 (.rcall 465 [.l 4] 0 0 20200)<|qm 0<|q1 (.rcall 465 [.l 6] 0 0 20300)<|qf 3 0<|qs 3 1 8 1<|qf 3 1<|qs 3 1 10 3<|qf 3 4<|qs 3 1 12 5<|qf 3 13<|qs 3 1 14 7<|qe) <| rs 18 (qm 0<|q1 (.rcall 465 [.l 0] 0 0 20400)<|qm 0<|q1 (.rcall 465 [.l 2] 0 0 20500)<|qm 0<|q1 (.rcall 465 [.l 4] 0 0 20600)<|qf 3 14<|qs 3 1 6 1<|qf 3 15<|qs 3 1 8 3<|qf 3 16<|qs 3 1 10 5<|qe) <| rs 27 (qm 0<|q1 (.rcall 492 [.l 0] 0 0 20700)<|qm 0<|q1 (.rcall 492 [.l 2] 0 0 20800)<|qf 3 2<|qg 0<|qs 3 1 5 1<|qf 3 2<|qg 1<|qs 3 1 8 3<|qe) <| rs 35 (qm 0<|q1 (.rcall 464 [.l 0] 0 0 20900)<|qm 0<|q1 (.rcall 464 [.l 2] 0 0 21000)<|qf 3 6<|qs 3 3 4 1<|qf 3 9<|qs 3 3 6 3<|qe) <| sq (rs 41 (qm 0<|q3 (.rcall 466 [.l 0] 0 0 21100)<|q3 (.mov (ci 0))<|qe) <| bk 0 l467_0) <| sq (rs 72 (qm 0<|q3 (.rcall 466 [.l 0] 0 0 21700)<|q3 (.mov (ci 0))<|qe) <| bk 4 l467_2) <| rs 98 (qb 3 17<|qt 2 17 0<|qe) .ret
def F467 : F := mF 1 [.cell 2 (some 17)] none c467
attribute [go_sem] c467 F467
def l468_0 : C := .loop [] [] [] [] (rs 9 (q3 (.bin .lss (.g 8) (.g 7))<|qe) <| sq (cd 9 .skip <| .exit 0) <| sq (bk 1 (rs 10 (qm 8<|qv 5<|qe) <| rs 11 (qm 1<|qm 0<|qm 5<|qi 36<|qJ 36<|q3 (.call (.v (.l 0)) .no none [.l 4])<|qe) <| cd 16 (rs 17 (qm 5<|qv 4<|qe) .ret) .skip)) <| r1 18 (q1 (.bin .add (.g 8) (ci 1))<|qv 8<|qe))
def c468 : C := rs 0 (qz 4 0<|qe) <| sq (rs 6 (qm 0<|qH false<|q3 (.mov (ci 0))<|qe) <| bk 0 l468_0) <| rs 0 (qz 4 (-1)<|qe) .ret
def F468 : F := mF 2 [.t 4] none c468
attribute [go_sem] c468 F468
def c469 : C := rs 0 (qG 2 z_12<|qE 3<|qz 4 0<|qe) <| rs 11 (qm 0<|qc 470<|q2 10 (.mov (.l 1))<|qx 0<|qy 1<|qY 2 2<|qV 5 3<|qV 0 4<|qV 6 5<|qe) <| i1 16 (qm 6<|qK .neq 0<|qe) 17 (rs 18 (q1 (.build z_12 [])<|qm 6<|qt 2 3 0<|qE 3<|qV 4 1<|qe) .ret) <| rs 21 (qm 0<|qc 470<|q2 20 (.mov (.l 1))<|qx 0<|qy 1<|qY 2 2<|qV 7 3<|qV 0 4<|qV 6 5<|qe) <| i1 26 (qm 6<|qK .neq 0<|qe) 27 (rs 28 (q1 (.build z_12 [])<|qm 6<|qt 2 3 0<|qE 3<|qV 4 1<|qe) .ret) <| rs 31 (qm 0<|qc 470<|q2 30 (.mov (.l 1))<|qx 0<|qy 1<|qY 2 2<|qV 8 3<|qV 0 4<|qV 6 5<|qe) <| i1 36 (qm 6<|qK .neq 0<|qe) 37 (rs 38 (q1 (.build z_12 [])<|qm 6<|qt 2 3 0<|qE 3<|qV 4 1<|qe) .ret) <| rs 40 (qm 5<|qm 7<|qm 8<|q1 (.build z_12 [(0,1,.l 0),(1,1,.l 1),(2,1,.l 2)])<|qG 9 z_12<|qs 9 3 4 3<|qe) <| i1 44 (qb 9 3<|qc 24<|qN<|qe) 46 (rs 47 (q1 (.build z_12 [])<|qt 2 3 0<|qE 3<|qz 4 3<|qe) .ret) <| rs 48 (qb 9 3<|qm 0<|qt 2 3 0<|qw 3<|qz 4 0<|qe) .ret
def F469 : F := mF 1 [.cell 2 (some 3),.t 3,.t 4] none c469
attribute [go_sem] c469 F469
def l470_0 : C := .loop [] [] [] [] (lq 10 (qm 5<|qm 0<|qh true<|qq .lss 0<|ya<|qm 0<|qm 5<|q1 (.idx (.l 5) (.l 6))<|q1 (.bin .geq (.l 7) (.c (.int .u8 128)))<|zA 4<|qe) 19 0 <| bk 1 (r1 20 (qm 5<|qk .add 1<|qv 5<|qe)))
def l470_1 : C := .loop [] [] [] [] (lq 29 (qm 7<|qK .geq 0<|qe) 30 2 <| sq (bk 3 (r1 33 (qm 6<|q1 (.bin .mul (ci 128) (.l 0))<|qm 0<|qm 7<|q1 (.idx (.l 2) (.l 3))<|q1 (.conv (.int .i64) (.l 4))<|qk .rem 128<|qq .add 1<|qv 6<|qe))) <| r1 31 (qm 7<|qk .sub 1<|qv 7<|qe))
def c470 : C := rs 0 (qz 2 0<|qE 3<|qz 4 0<|qe) <| rs 0 (qz 5 0<|qe) <| sq (bk 0 l470_0) <| i1 22 (qm 5<|qm 0<|qh true<|qQ .eql 0<|qe) 25 (rs 0 (qz 2 0<|qE 3<|qz 4 2<|qe) .ret) <| i1 26 (qm 5<|qK .gtr 8<|qe) 27 (rs 0 (qz 2 0<|qE 3<|qz 4 3<|qe) .ret) <| rs 0 (qz 6 0<|qe) <| sq (rs 28 (qm 5<|qv 7<|qe) <| bk 2 l470_1) <| rs 42 (qm 6<|qc 487<|q2 41 (.mov (.l 1))<|qx 0<|qy 1<|qw 8<|qD 9<|q1 (.mov (.l 4))<|qe) <| i1 46 (qm 8<|qm 0<|qm 5<|qk .add 1<|q1 (.sl true 0 (.l 1) none (some (.l 3)))<|qQ .neq 0<|qe) 51 (rs 0 (qz 2 0<|qE 3<|qz 4 3<|qe) .ret) <| rt 52 (qm 6<|qm 0<|qm 5<|qk .add 1<|q1 (.sl true 0 (.l 1) (some (.l 3)) none)<|qV 2 0<|qw 3<|qz 4 0<|qe) .ret
def F470 : F := mF 1 [.t 2,.t 3,.t 4] none c470
attribute [go_sem] c470 F470
def c471 : C := rs 0 (qE 2<|qe) <| rs 7 (qm 0<|q1 (.nilc (.l 0))<|qg 0<|ql 0<|qc 494<|q2 6 (.mov (.l 4))<|qx 0<|qy 1<|qY 5 2<|qV 3 6<|qV 4 7<|qV 5 8<|qe) <| rs 15 (qm 0<|qm 0<|q1 (.nilc (.l 1))<|qg 1<|ql 0<|yo<|qm 5<|qk .neq 0<|zo 5<|q1 (.nilc (.l 0))<|qg 1<|qs 0 1 10 8<|qe) <| rs 26 (qm 0<|qm 4<|q1 (.nilc (.l 0))<|qg 0<|qs 0 1 3 1<|qe) <| rs 30 (qm 3<|qv 2<|qe) .ret
def F471 : F := mF 1 [.t 2] none c471
attribute [go_sem] c471 F471
def c472 : C := rs 0 (qF 2<|qe) <| rs 7 (qm 0<|q1 (.nilc (.l 0))<|qg 0<|ql 0<|qc 495<|q2 6 (.mov (.l 4))<|qx 0<|qy 1<|qY 5 2<|qV 3 6<|qV 4 7<|qV 5 8<|qe) <| rs 15 (qm 0<|qm 0<|q1 (.nilc (.l 1))<|qg 1<|ql 0<|yo<|qm 5<|qk .neq 0<|zo 5<|q1 (.nilc (.l 0))<|qg 1<|qs 0 1 10 8<|qe) <| rs 26 (qm 0<|qm 4<|q1 (.nilc (.l 0))<|qg 0<|qs 0 1 3 1<|qe) <| rs 30 (qm 3<|qv 2<|qe) .ret
def F472 : F := mF 1 [.t 2] none c472
attribute [go_sem] c472 F472
def c473 : C := rs 0 (qB 2 0<|qB 3 1<|qG 4 z_9<|qe) <| rs 6 (qr 2 1<|q1 (.fn 496 [.g 3] [3])<|q1 (.call (.k 463) .borrow none [.l 1,.l 2])<|qv 5<|qe) <| rs 10 (qr 2 1<|q1 (.call (.k 497) .freeze (some 0) [.l 1])<|qf 2 1<|qs 2 1 3 2<|qe) <| sq (bk 0 (rs 22 (qm 5<|qk .lss 0<|qv 21<|qe) <| cd 21 (r1 24 (qr 2 1<|qb 3 9<|q1 (.mks 9 1 z_10 [(0,.l 2)])<|q1 (.app 12 9 (.l 1) (.l 3))<|qf 2 1<|qs 2 1 5 4<|qe)) <| rt 31 (qr 2 1<|qm 5<|qi 9<|qg 0<|q1 (.load (.e 12) none (.l 4))<|qr 3 0<|qq .eql 5<|qv 30<|qe) <| cd 30 (r1 40 (qr 2 1<|qm 5<|qb 3 9<|q1 (.iad 9 (.l 1) (.l 2))<|q5 (.store (.e 12) 9 (.l 4) (.l 3))<|qe)) <| r1 14 (qr 2 1<|qm 5<|qb 3 9<|q1 (.mks 9 1 z_10 [(0,.l 3)])<|q1 (.ins 498 12 9 (.l 1) (.l 2) (.l 4))<|qf 2 1<|qs 2 1 6 5<|qe))) <| rs 45 (qb 2 2<|qt 4 2 0<|qe) .ret
def F473 : F := mF 2 [.cell 4 (some 2)] none c473
attribute [go_sem] c473 F473
def c474 : C := rs 0 (qB 2 0<|qG 4 z_12<|qG 5 z_12<|qz 6 0<|qe) <| i1 7 (qb 2 3<|qm 1<|qd 499<|qN<|qe) 10 (rs 11 (q1 (.build z_12 [])<|q1 (.build z_12 [])<|qt 4 3 0<|qt 5 3 1<|qz 6 1<|qe) .ret) <| sq (bk 0 (rs 20 (qm 1<|qf 2 0<|qg 0<|ql 2<|qq .gtr 0<|qv 19<|qe) <| cd 19 (r1 25 (qm 1<|qf 2 0<|qg 0<|qs 2 1 2 0<|qf 2 0<|qg 1<|qu 2 5 0<|qe)) <| rs 31 (qf 2 0<|qg 1<|ql 2<|qk .eql 1048576<|qv 30<|qe) <| cd 30 (rs 35 (q1 (.build z_12 [])<|q1 (.build z_12 [])<|qt 4 3 0<|qt 5 3 1<|qz 6 6<|qe) .ret) <| r1 13 (qf 2 0<|qg 1<|ql 2<|qk .add 1<|qf 2 0<|qg 1<|qs 2 1 5 3<|qe))) <| rt 37 (qb 2 3<|qR 2 0 3<|qt 4 3 0<|qt 5 3 2<|qz 6 0<|qe) .ret
def F474 : F := mF 2 [.cell 4 (some 3),.cell 5 (some 3),.t 6] none c474
attribute [go_sem] c474 F474
def l483_0 : C := .loop [] [] [] [] (rs 12 (q3 (.bin .lss (.g 11) (.g 10))<|qe) <| sq (cd 12 .skip <| .exit 0) <| sq (bk 1 (rs 13 (q1 (.iad 1 (.g 9) (.g 11))<|qj<|qv 6<|qe) <| rs 16 (qm 6<|qc 456<|q2 15 (.mov (.l 1))<|qx 0<|qy 1<|qw 7<|qw 8<|qe) <| i1 20 (qm 8<|qK .neq 0<|qe) 21 (rs 22 (qm 8<|qE 2<|qw 3<|qe) .ret) <| r1 23 (qm 4<|qm 7<|q1 (.app 4 1 (.l 0) (.l 1))<|qv 4<|qe))) <| r1 26 (q1 (.bin .add (.g 11) (ci 1))<|qv 11<|qe))
def c483 : C := rs 0 (qE 2<|qz 3 0<|qe) <| rs 4 (q3 (.mko 1)<|qe) <| sq (rs 9 (q3 (.mov (.g 0))<|qH false<|q3 (.mov (ci 0))<|qe) <| bk 0 l483_0) <| rs 27 (qm 4<|q1 (.b2s (.l 0))<|qv 2<|qz 3 0<|qe) .ret
def F483 : F := mF 1 [.t 2,.t 3] none c483
attribute [go_sem] c483 F483
def c484 : C := rs 0 (qE 2<|qe) <| rs 6 (qm 0<|qh true<|qc 456<|q2 5 (.mov (.l 2))<|qx 0<|qy 1<|qw 3<|qD 4<|q1 (.mov (.l 5))<|qe) <| rs 11 (qm 3<|qm 0<|qq .add 0<|qv 2<|qe) .ret
def F484 : F := mF 1 [.t 2] none c484
attribute [go_sem] c484 F484
def c485 : C := rs 0 (qE 2<|qe) <| i1 3 (q3 (.mov (.g 0))<|qe) 3 (rs 2 (q3 (.mov (.c (.str [1])))<|qe) .ret) <| rs 2 (q3 (.mov (.c (.str [0])))<|qe) .ret
def F485 : F := mF 1 [.t 2] none c485
attribute [go_sem] c485 F485
def c486 : C := rs 0 (qB 1 0<|qE 2<|qe) <| rs 10 (qr 1 0<|qc 487<|q2 9 (.mov (.l 2))<|qx 0<|qy 1<|qw 3<|qD 4<|q1 (.mov (.l 5))<|qe) <| rs 16 (qr 1 1<|qc 487<|q2 15 (.mov (.l 2))<|qx 0<|qy 1<|qw 5<|qD 6<|q1 (.mov (.l 5))<|qe) <| rs 22 (qr 1 2<|qc 487<|q2 21 (.mov (.l 2))<|qx 0<|qy 1<|qw 7<|qD 8<|q1 (.mov (.l 5))<|qe) <| rs 27 (qm 3<|qm 5<|qq .add 0<|qm 7<|qq .add 2<|qv 2<|qe) .ret
def F486 : F := mF 1 [.t 2] none c486
attribute [go_sem] c486 F486
def l487_0 : C := .loop [] [] [] [] (lq 12 (qm 6<|qm 4<|qh false<|qQ .lss 0<|qe) 15 0 <| sq (bk 1 (rs 18 (qm 4<|qm 6<|qi 1<|qj<|qv 7<|qe) <| i1 22 (qm 6<|qm 4<|qh false<|qk .sub 1<|qQ .lss 0<|qe) 26 (r1 27 (qm 7<|qk .add 128<|qv 7<|qe)) <| r1 29 (qm 5<|qm 7<|q1 (.conv (.int .u8) (.l 1))<|q1 (.mks 1 1 [.int .u8 0] [(0,.l 2)])<|q1 (.b2s (.l 3))<|qq .add 0<|qv 5<|qe))) <| r1 16 (qm 6<|qk .add 1<|qv 6<|qe))
def c487 : C := rs 0 (qE 2<|qz 3 0<|qe) <| i1 8 (qm 0<|qK .lss 0<|qe) 9 (rs 0 (qE 2<|qz 3 1<|qe) .ret) <| rs 10 (qm 0<|qc 502<|qv 4<|qe) <| rs 0 (qE 5<|qe) <| sq (rs 0 (qz 6 0<|qe) <| bk 0 l487_0) <| rs 35 (qm 5<|qv 2<|qz 3 0<|qe) .ret
def F487 : F := mF 1 [.t 2,.t 3] none c487
attribute [go_sem] c487 F487
def c488 : C := rs 0 (qE 2<|qe) <| rs 3 (qm 0<|qc 503<|qv 2<|qe) .ret
def F488 : F := mF 1 [.t 2] none c488
attribute [go_sem] c488 F488
def c489 : C := rs 0 (qE 2<|qe) <| rs 3 (qm 0<|qc 504<|qv 2<|qe) .ret
def F489 : F := mF 1 [.t 2] none c489
attribute [go_sem] c489 F489
def l490_0 : C := .loop [] [] [] [] (rs 12 (q3 (.bin .lss (.g 11) (ci 3))<|qe) <| sq (cd 12 .skip <| .exit 0) <| sq (bk 1 (rs 13 (qm 11<|qv 6<|qe) <| rs 15 (qm 0<|qc 491<|q2 14 (.mov (.l 1))<|qx 0<|qy 1<|qY 2 2<|qV 7 3<|qV 8 4<|qV 9 5<|qe) <| i1 20 (qm 9<|qK .neq 0<|qe) 21 (rs 22 (q1 (.build z_12 [])<|qm 9<|qt 2 3 0<|qE 3<|qV 4 1<|qe) .ret) <| r1 24 (qm 6<|qm 7<|qm 8<|q1 (.iada 1 3 (.g 5) (.l 0))<|qs 5 1 3 1<|qV 0 2<|qe))) <| r1 28 (q1 (.bin .add (.g 11) (ci 1))<|qv 11<|qe))
def c490 : C := rs 0 (qG 2 z_12<|qE 3<|qz 4 0<|qe) <| rs 0 (qG 5 z_12<|qe) <| sq (rs 0 (qz 11 0<|qe) <| bk 0 l490_0) <| rs 29 (q1 (.iada 1 3 (.g 5) (ci 0))<|ql 5<|q1 (.iada 1 3 (.g 5) (ci 1))<|ql 5<|q1 (.iada 1 3 (.g 5) (ci 2))<|ql 5<|q1 (.build z_12 [(0,1,.l 1),(1,1,.l 3),(2,1,.l 5)])<|qG 10 z_12<|qs 10 3 7 6<|qe) <| i1 36 (qb 10 3<|qc 28<|qN<|qe) 38 (rs 39 (q1 (.build z_12 [])<|qt 2 3 0<|qE 3<|qz 4 3<|qe) .ret) <| rs 40 (qb 10 3<|qm 0<|qt 2 3 0<|qw 3<|qz 4 0<|qe) .ret
def F490 : F := mF 1 [.cell 2 (some 3),.t 3,.t 4] none c490
attribute [go_sem] c490 F490
def l491_0 : C := .loop [] [] [] [] (rs 11 (q3 (.bin .lss (.g 10) (.g 9))<|qe) <| sq (cd 11 .skip <| .exit 0) <| sq (bk 1 (rs 12 (qm 10<|qv 6<|qe) <| rs 13 (qm 0<|qm 6<|q1 (.idx (.l 0) (.l 1))<|q1 (.bin .and (.l 2) (.c (.int .u8 127)))<|q1 (.conv (.int .i64) (.l 3))<|qv 7<|qe) <| bk 2 (rs 29 (qm 6<|qk .gtr 8<|ya<|qm 0<|qm 6<|q1 (.idx (.l 3) (.l 4))<|q1 (.bin .geq (.l 5) (.c (.int .u8 128)))<|yo<|qm 7<|qk .gtr 0<|y1 2<|qo 7<|za 2<|qv 28<|qe) <| cd 28 (rs 41 (qm 0<|qc 505<|qz 2 0<|qE 3<|qV 4 1<|qe) .ret) <| rs 44 (qm 0<|qm 6<|q1 (.idx (.l 0) (.l 1))<|q1 (.bin .geq (.l 2) (.c (.int .u8 128)))<|qv 43<|qe) <| cd 43 (r1 48 (qm 5<|qm 7<|qm 6<|q1 (.bin .mul (ci 7) (.l 2))<|q1 (.sh .shl (.l 1) (.l 3))<|qq .or 0<|qv 5<|qe)) <| rs 55 (qm 7<|qk .eql 0<|ya<|qm 6<|qk .gtr 0<|za 2<|qv 54<|qe) <| cd 54 (rs 0 (qz 2 0<|qE 3<|qz 4 3<|qe) .ret) <| rt 18 (qm 5<|qm 7<|qm 6<|q1 (.bin .mul (ci 7) (.l 2))<|q1 (.sh .shl (.l 1) (.l 3))<|qq .or 0<|qm 0<|qm 6<|qk .add 1<|q1 (.sl true 0 (.l 6) (some (.l 8)) none)<|qV 2 5<|qw 3<|qz 4 0<|qe) .ret))) <| r1 61 (q1 (.bin .add (.g 10) (ci 1))<|qv 10<|qe))
def c491 : C := rs 0 (qz 2 0<|qE 3<|qz 4 0<|qe) <| rs 0 (qz 5 0<|qe) <| sq (rs 8 (qm 0<|qH true<|q3 (.mov (ci 0))<|qe) <| bk 0 l491_0) <| rs 0 (qz 2 0<|qE 3<|qz 4 2<|qe) .ret
def F491 : F := mF 1 [.t 2,.t 3,.t 4] none c491
attribute [go_sem] c491 F491
def c492 : C := rs 0 (qE 2<|qe) <| rs 7 (qm 0<|q1 (.nilc (.l 0))<|qg 0<|ql 0<|qc 506<|q2 6 (.mov (.l 4))<|qx 0<|qy 1<|qY 5 2<|qV 3 6<|qV 4 7<|qV 5 8<|qe) <| i1 15 (qm 0<|q1 (.nilc (.l 0))<|qg 1<|ql 0<|yo<|qm 5<|qk .neq 0<|zO 4<|qe) 22 (rs 23 (qm 0<|q1 (.nilc (.l 0))<|qg 1<|q5 (.store (.v 0) 1 (.l 2) (cb true))<|qe) <| rs 0 (qE 2<|qe) .ret) <| rs 26 (qm 0<|qm 4<|q1 (.nilc (.l 0))<|qg 0<|qs 0 1 3 1<|qe) <| rs 30 (qm 3<|qv 2<|qe) .ret
def F492 : F := mF 1 [.t 2] none c492
attribute [go_sem] c492 F492
def c493 : C := rs 0 (qF 2<|qe) <| rs 7 (qm 0<|q1 (.nilc (.l 0))<|qg 0<|ql 0<|qc 507<|q2 6 (.mov (.l 4))<|qx 0<|qy 1<|qY 5 2<|qV 3 6<|qV 4 7<|qV 5 8<|qe) <| i1 15 (qm 0<|q1 (.nilc (.l 0))<|qg 1<|ql 0<|yo<|qm 5<|qk .neq 0<|zO 4<|qe) 22 (rs 23 (qm 0<|q1 (.nilc (.l 0))<|qg 1<|q5 (.store (.v 0) 1 (.l 2) (cb true))<|qe) <| rs 0 (qF 2<|qe) .ret) <| rs 26 (qm 0<|qm 4<|q1 (.nilc (.l 0))<|qg 0<|qs 0 1 3 1<|qe) <| rs 30 (qm 3<|qv 2<|qe) .ret
def F493 : F := mF 1 [.t 2] none c493
attribute [go_sem] c493 F493
def c494 : C := rs 0 (qE 2<|qE 3<|qz 4 0<|qe) <| rs 9 (qm 0<|qc 470<|q2 8 (.mov (.l 1))<|qx 0<|qy 1<|qY 2 2<|qV 5 3<|qV 6 4<|qV 7 5<|qe) <| i1 14 (qm 7<|qK .neq 0<|qe) 15 (rs 16 (qm 7<|qE 2<|qE 3<|qV 4 0<|qe) .ret) <| i1 17 (qm 5<|qm 6<|qh true<|qQ .gtr 0<|qe) 20 (rs 0 (qE 2<|qE 3<|qz 4 2<|qe) .ret) <| rt 21 (qm 6<|qm 5<|q1 (.sl true 0 (.l 0) none (some (.l 1)))<|qm 6<|qm 5<|q1 (.sl true 0 (.l 3) (some (.l 4)) none)<|qV 2 2<|qw 3<|qz 4 0<|qe) .ret
def F494 : F := mF 1 [.t 2,.t 3,.t 4] none c494
attribute [go_sem] c494 F494
def c495 : C := rs 0 (qF 2<|qE 3<|qz 4 0<|qe) <| i1 5 (qm 0<|qh true<|qK .eql 0<|qe) 7 (rs 0 (qF 2<|qE 3<|qz 4 2<|qe) .ret) <| i1 8 (qm 0<|q1 (.idx (.l 0) (ci 0))<|q3 (.bin .gtr (.l 1) (.c (.int .u8 1)))<|qe) 10 (rs 0 (qF 2<|qE 3<|qz 4 3<|qe) .ret) <| rt 11 (qm 0<|q1 (.idx (.l 0) (ci 0))<|q1 (.bin .eql (.l 1) (.c (.int .u8 1)))<|qm 0<|q1 (.sl true 0 (.l 3) (some (ci 1)) none)<|qV 2 2<|qw 3<|qz 4 0<|qe) .ret
def F495 : F := mF 1 [.t 2,.t 3,.t 4] none c495
attribute [go_sem] c495 F495
def c496 : C := rs 0 (qB 2 0<|qF 3<|qe) <| rs 4 (qr 2 0<|qf 1 0<|qj<|qq .geq 1<|qv 3<|qe) .ret
def F496 : F := mF 2 [.t 3] none c496
attribute [go_sem] c496 F496
def c499 : C := rs 0 (qB 2 0<|qF 4<|qe) <| rs 5 (qR 2 0 3<|qc 28<|ya<|qm 1<|qk .geq 0<|za 3<|ya<|qm 1<|qk .leq 1099511627776<|za 7<|qv 4<|qe) .ret
def F499 : F := mF 2 [.t 4] none c499
attribute [go_sem] c499 F499
def l502_0 : C := .loop [] [] [] [] (lq 9 (qm 0<|qK .gtr 0<|qe) 10 0 <| bk 1 (rs 11 (qm 3<|qm 0<|qk .rem 128<|q1 (.mks 1 1 [.int .i64 0] [(0,.l 2)])<|q1 (.app 6 1 (.l 0) (.l 3))<|qv 3<|qe) <| r1 16 (qm 0<|qk .quo 128<|qv 0<|qe)))
def c502 : C := rs 0 (qS 2 1<|qe) <| rs 4 (qm 0<|qk .rem 128<|q1 (.mkb 1 1 [.int .i64 0] [(0,.l 1)])<|qv 3<|qe) <| rs 7 (qm 0<|qk .quo 128<|qv 0<|qe) <| sq (bk 0 l502_0) <| rs 18 (qm 3<|qv 2<|qe) .ret
def F502 : F := mF 1 [.t 2] none c502
attribute [go_sem] c502 F502
def c503 : C := rs 0 (qE 2<|qe) <| rs 6 (qm 0<|qh true<|qc 487<|q2 5 (.mov (.l 2))<|qx 0<|qy 1<|qw 3<|qD 4<|q1 (.mov (.l 5))<|qe) <| rs 11 (qm 3<|qm 0<|qq .add 0<|qv 2<|qe) .ret
def F503 : F := mF 1 [.t 2] none c503
attribute [go_sem] c503 F503
def c504 : C := rs 0 (qE 2<|qe) <| i1 3 (q3 (.mov (.g 0))<|qe) 3 (rs 4 (q1 (.mks 1 1 [.int .u8 0] [(0,.c (.int .u8 1))])<|q1 (.b2s (.l 0))<|qv 2<|qe) .ret) <| rs 6 (q1 (.mks 1 1 [.int .u8 0] [(0,.c (.int .u8 0))])<|q1 (.b2s (.l 0))<|qv 2<|qe) .ret
def F504 : F := mF 1 [.t 2] none c504
attribute [go_sem] c504 F504
def l505_0 : C := .loop [] [] [] [] (rs 7 (q3 (.bin .lss (.g 6) (.g 5))<|qe) <| sq (cd 7 .skip <| .exit 0) <| sq (bk 1 (rs 8 (qm 6<|qv 3<|qe) <| rs 9 (qm 0<|qm 3<|q1 (.idx (.l 0) (.l 1))<|q3 (.bin .lss (.l 2) (.c (.int .u8 128)))<|qe) <| cd 12 (rs 0 (qz 2 3<|qe) .ret) .skip)) <| r1 13 (q1 (.bin .add (.g 6) (ci 1))<|qv 6<|qe))
def c505 : C := rs 0 (qz 2 0<|qe) <| sq (rs 4 (qm 0<|qH true<|q3 (.mov (ci 0))<|qe) <| bk 0 l505_0) <| rs 0 (qz 2 2<|qe) .ret
def F505 : F := mF 1 [.t 2] none c505
attribute [go_sem] c505 F505
def c506 : C := rs 0 (qE 2<|qE 3<|qz 4 0<|qe) <| rs 9 (qm 0<|qc 491<|q2 8 (.mov (.l 1))<|qx 0<|qy 1<|qY 2 2<|qV 5 3<|qV 6 4<|qV 7 5<|qe) <| i1 14 (qm 7<|qK .neq 0<|qe) 15 (rs 16 (qm 7<|qE 2<|qE 3<|qV 4 0<|qe) .ret) <| i1 17 (qm 6<|qh true<|qm 5<|qQ .lss 1<|qe) 20 (rs 0 (qE 2<|qE 3<|qz 4 2<|qe) .ret) <| rt 21 (qm 6<|qm 5<|q1 (.sl true 0 (.l 0) none (some (.l 1)))<|qm 6<|qm 5<|q1 (.sl true 0 (.l 3) (some (.l 4)) none)<|qV 2 2<|qw 3<|qz 4 0<|qe) .ret
def F506 : F := mF 1 [.t 2,.t 3,.t 4] none c506
attribute [go_sem] c506 F506
def c507 : C := rs 0 (qF 2<|qE 3<|qz 4 0<|qe) <| sq (bk 0 (rs 6 (qm 0<|q1 (.bin .eql (.l 0) (.c (.str [])))<|qv 5<|qe) <| cd 5 (rs 0 (qF 2<|qE 3<|qz 4 2<|qe) .ret) <| rs 9 (qm 0<|q1 (.idx (.l 0) (ci 0))<|q1 (.bin .gtr (.l 1) (.c (.int .u8 1)))<|qv 8<|qe) <| cd 8 (rs 0 (qF 2<|qE 3<|qz 4 3<|qe) .ret) .skip)) <| rt 12 (qm 0<|q1 (.idx (.l 0) (ci 0))<|q1 (.bin .eql (.l 1) (.c (.int .u8 1)))<|qm 0<|q1 (.sl true 0 (.l 3) (some (ci 1)) none)<|qV 2 2<|qw 3<|qz 4 0<|qe) .ret
def F507 : F := mF 1 [.t 2,.t 3,.t 4] none c507
attribute [go_sem] c507 F507
end Sg
namespace Sg
open _root_.Go _root_.Go.RowKit _root_.Go.Proofs _root_.Go.Shelf
def renU:Shelf.Ren:=⟨fun|197=>292|260=>312|n=>n,fun|0=>0|3=>3|4=>4|5=>5|9=>9|21=>21|46=>167|105=>342|119=>365|138=>367|139=>368|n=>n,fun|3=>0|4=>1|n=>n⟩
set_option maxRecDepth 1000000 in
theorem lays197:Lays.n197 Tryz.prog renU where
 mixed:=by kernel_rfl
 f197:=Tryz.func292.trans (congrArg some (by kernel_rfl))
 f260:=Tryz.func312.trans (congrArg some (by kernel_rfl))
 t0:=Tryz.underlying0
 a0:=Tryz.isAgg0
 z0:=Tryz.sizeOf0
 v0:=Tryz.zeroValue0
 t3:=Tryz.underlying3
 a3:=Tryz.isAgg3
 z3:=Tryz.sizeOf3
 v3:=Tryz.zeroValue3
 t4:=Tryz.underlying4
 a4:=Tryz.isAgg4
 z4:=Tryz.sizeOf4
 v4:=Tryz.zeroValue4
 t5:=Tryz.underlying5
 a5:=Tryz.isAgg5
 z5:=Tryz.sizeOf5
 v5:=Tryz.zeroValue5
 t9:=Tryz.underlying9
 a9:=Tryz.isAgg9
 z9:=Tryz.sizeOf9
 v9:=Tryz.zeroValue9
 t21:=Tryz.underlying21
 a21:=Tryz.isAgg21
 z21:=Tryz.sizeOf21
 v21:=Tryz.zeroValue21
 t46:=Tryz.underlying167
 a46:=Tryz.isAgg167
 z46:=Tryz.sizeOf167
 v46:=Tryz.zeroValue167
 t105:=Tryz.underlying342
 a105:=Tryz.isAgg342
 z105:=Tryz.sizeOf342
 v105:=Tryz.zeroValue342
 t119:=Tryz.underlying365
 a119:=Tryz.isAgg365
 z119:=Tryz.sizeOf365
 t138:=Tryz.underlying367
 a138:=Tryz.isAgg367
 z138:=Tryz.sizeOf367
 v138:=Tryz.zeroValue367
 t139:=Tryz.underlying368
 a139:=Tryz.isAgg368
 z139:=Tryz.sizeOf368
 v139:=Tryz.zeroValue368
 g3:=by kernel_rfl
 g4:=by kernel_rfl
theorem dec_walk (s:ByteArray) (w:World) (hT:Lib.Utf8Tabs 0 1 w) :
  Calls Tryz.prog 292 #[.string s] w fun e w'=>e=.returned (.tuple #[.int .i32 (Lib.decodeGo s).1,.int .i64 (Lib.decodeGo s).2])∧Below w.heap.size w w':=
 Any.utf8_DecodeRuneInString lays197 s w hT
theorem tabs_st (w w':World) (h:Lib.Utf8Tabs 0 1 w) (hb:∀b,b<2→w'.heap[b]?=w.heap[b]?):Lib.Utf8Tabs 0 1 w':=by
 have e:∀b o,b<2→w'.cell? ⟨b,o,none⟩=w.cell? ⟨b,o,none⟩:=fun b o hlt=>by
  simp only[World.cell?,hb b hlt]
 exact⟨fun c hc=>by rw[e _ _ (by decide)];exact h.1 c hc,fun i hi=>by rw[e _ _ (by decide),e _ _ (by decide)];exact h.2 i hi⟩
def cxU (l:List (Nat×Nat)):Cx where
 fm:=fun n=>(look l n).getD 0
 tm:=fun n=>n
 gn:=2
 G:=Lib.Utf8Tabs 0 1
 Gst:=tabs_st
set_option maxHeartbeats 4000000 in
set_option maxRecDepth 1000000 in
theorem key_walk (s:ByteArray) (w:World) (hgn:2≤w.heap.size) (hT:Lib.Utf8Tabs 0 1 w)
  (hplain:∀(r n:Int) (w:World),2≤w.heap.size→Lib.Utf8Tabs 0 1 w→Calls Tryz.prog 293 #[.int .i32 r,.int .i64 n] w fun e w'=>e=.returned (.bool (plainR r n))∧Below w.heap.size w w') :
  Calls Tryz.prog 260 #[.string s] w fun e w'=>e=.returned (.bool (keyR s.data.toList))∧Below w.heap.size w w':=by
 have t0:=Tryz.underlying0;have t3:=Tryz.underlying3;have t4:=Tryz.underlying4;have t9:=Tryz.underlying9;have t21:=Tryz.underlying21
 have hu0:=run_underlying t0;have hu3:=run_underlying t3;have hu4:=run_underlying t4;have hu9:=run_underlying t9;have hu21:=run_underlying t21
 have mixed:Tryz.prog.follows .mixedOrders=true:=by kernel_rfl
 have a0:=Tryz.isAgg0;have z0:=Tryz.sizeOf0;have v0:=Tryz.zeroValue0
 have a3:=Tryz.isAgg3;have z3:=Tryz.sizeOf3;have v3:=Tryz.zeroValue3
 have a4:=Tryz.isAgg4;have z4:=Tryz.sizeOf4;have v4:=Tryz.zeroValue4
 have a9:=Tryz.isAgg9;have z9:=Tryz.sizeOf9;have v9:=Tryz.zeroValue9
 have a21:=Tryz.isAgg21;have z21:=Tryz.sizeOf21;have v21:=Tryz.zeroValue21
 go_enter Tryz.func260,Tryz.ntmps260
 go_wp2
 go_loopw [3] (fun _ wr=>∃(pos fuel:Nat),wr.heap[w.heap.size]?=some (.stringIter s pos)∧Below w.heap.size w wr∧keyAll fuel (s.data.toList.drop pos)=keyAll s.size s.data.toList∧s.size≤pos+fuel) (fun _ wr=>s.size-wr.iterPos w.heap.size)
 case atStart=>
  refine⟨0,s.size,?_,(Below.refl _ w).alloc (Nat.le_refl _) _,by simp,by omega⟩
  have:=World.iter_heap w s 0
  simpa using this
 case round=>
  obtain⟨pos,fuel,hit,hbw,hacc,hfu⟩:=hrel
  have hsz:w.heap.size<wr.heap.size:=(Array.getElem?_eq_some_iff.1 hit).1
  have hbT:∀W:World,Below w.heap.size w W→Lib.Utf8Tabs 0 1 W:=fun W h=>tabs_st w W hT fun b hb=>h.block b (by omega)
  by_cases hp:pos<s.size
  ·have hnx:∀ty,(Instr.next (.pointer (some ⟨w.heap.size,0,none⟩)) true ty).run Tryz.prog wr=_:=fun ty=>Lib.run_next_any_at wr w.heap.size s pos ty hit hp
   have hbw2:=Lib.below_iterAt hbw (k:=w.heap.size) (by omega) s (pos+(Utf8.decode s pos).2)
   have hit2:=Lib.iterAt_heap wr w.heap.size s pos (pos+(Utf8.decode s pos).2) hit
   have hsz2:w.heap.size+1≤(wr.iterAt w.heap.size s (pos+(Utf8.decode s pos).2)).heap.size:=by rw[Lib.iterAt_size];omega
   have hde:∀n,n=s.size→Lib.decodeGo (s.extract pos n)=Utf8.decode s pos:=fun n hn=>decode_extract s pos n hn hp
   have hw1:=width_pos s pos
   obtain⟨f,rfl⟩:∃f,fuel=f+1:=⟨fuel-1,by omega⟩
   have hnil:s.data.toList.drop pos≠[]:=fun e=>by
    exact drop_ne s pos hp e
   have hdN:=decode_drop s pos
   simp only[keyAll,hnil,if_false,←hdN] at hacc
   generalize Utf8.decode s pos=D at *
   clear hdN hnil
   obtain⟨D1,D2⟩:=D
   simp only at hw1 hacc hbw2 hit2 hsz2 hde hnx
   have hsl:=size_list s
   have hfin:∀W:World,plainR D1 D2=false→keyR s.data.toList=false:=fun W hpl=>by
    rw[hpl,Bool.false_and] at hacc
    rw[keyR,hsl,←hacc,Bool.false_and]
   clear hsl
   go_wp2_with (go_at_call 292;refine (dec_walk _ _ (hbT _ hbw2)).mono ?_;rintro e W1 ⟨rfl,b1⟩)
   have hb3:=hbw2.trans (b1.mono (by omega))
   have hs3:W1.heap.size≥w.heap.size+1:=Nat.le_trans hsz2 b1.size
   have hit3:W1.heap[w.heap.size]?=some (.stringIter s (pos+D2)):=(b1.block _ (by omega)).trans hit2
   have hpl:=hplain D1 D2 W1 (by omega) (hbT _ hb3)
   cases hP:plainR D1 D2 with
   |false=>
    rw[hP] at hpl
    have hke:=hfin w hP
    clear hacc hfin
    go_wp2_with (go_at_call 293;refine hpl.mono ?_;rintro e W2 ⟨rfl,b2⟩)
    have hb4:=hb3.trans (b2.mono (by omega))
    go_wp2
    go_ret
    rw[hke]
    exact⟨rfl,hb4⟩
   |true=>
    rw[hP,Bool.true_and,List.drop_drop] at hacc
    rw[hP] at hpl
    clear hfin
    obtain⟨kk,hkk⟩:∃kk,kk=keyAll s.size s.data.toList:=⟨_,rfl⟩
    go_wp2_with (go_at_call 293;refine hpl.mono ?_;rintro e W2 ⟨rfl,b2⟩)
    have hb4:=hb3.trans (b2.mono (by omega))
    have hit4:W2.heap[w.heap.size]?=some (.stringIter s (pos+D2)):=(b2.block _ (by omega)).trans hit3
    go_wp2
    go_roundw
    case rel=>exact⟨pos+D2,f,hit4,hb4,hacc,by omega⟩
    case measure=>
     simp only[World.iterPos,hit4,hit]
     omega
  ·have hnx:∀ty,(Instr.next (.pointer (some ⟨w.heap.size,0,none⟩)) true ty).run Tryz.prog wr=_:=fun ty=>Lib.run_next_end_at wr w.heap.size s pos ty hit hp
   have hall:keyAll s.size s.data.toList=true:=by
    rw[←hacc,List.drop_eq_nil_of_le (by rw[size_list];omega)]
    cases fuel<;>simp[keyAll]
   have hkey:keyR s.data.toList=(decide ((1:Int)≤s.size)&&decide ((s.size:Int)≤16)):=by
    rw[keyR,size_list,hall,Bool.true_and]
    congr 1<;>exact decide_eq_decide.2 (by omega)
   clear hacc hall
   by_cases h1:(1:Int)≤s.size
   ·rw[decide_eq_true h1,Bool.true_and] at hkey
    go_wp2
    go_ret
    exact⟨by first|rfl|(rw[hkey];rfl),hbw⟩
   ·rw[decide_eq_false h1,Bool.false_and] at hkey
    go_wp2
    go_ret
    exact⟨by first|rfl|(rw[hkey];rfl),hbw⟩
end Sg
namespace Sg
open Go.Proofs
open _root_.Go
def noQ:List V→Option V:=fun _=>none
def storeFm:List (Nat×Nat):=[(403,4),(398,14),(404,19),(400,16),(405,20),(406,21),(407,22),(408,23),(399,13),(409,24),(242,15),(410,26),(360,25),(38,27),(411,28),(339,29),(395,9),(420,40),(413,30),(425,46),(37,47),(426,48),(414,31),(427,49),(40,50),(428,51),(51,53),(429,52),(368,37),(39,54),(430,55),(41,56),(431,58),(432,57),(45,38),(250,39),(52,62),(433,61),(372,60),(434,63),(435,64),(436,65),(246,66),(424,45),(397,12),(401,17),(345,11),(43,35),(341,59),(437,67),(438,68),(439,69),(440,70),(441,71),(15,72),(261,74),(442,73),(443,75),(444,76),(60,110),(61,94),(62,95),(42,111),(445,77),(24,78),(462,113),(463,112),(68,93),(464,114),(465,115),(466,116),(467,117),(249,41),(72,118),(63,119),(64,120),(65,121),(66,123),(67,122),(468,124),(70,96),(202,97),(86,98),(101,127),(153,128),(469,129),(470,130),(471,131),(472,132),(293,133),(245,134),(300,135),(459,107),(460,108),(461,109),(421,42),(422,43),(423,44),(366,125),(367,126),(28,101),(57,136),(473,137),(54,138),(474,139),(240,140),(247,141),(475,142),(26,144),(27,143),(21,146),(47,145),(476,147),(477,148),(262,149),(256,150),(258,151),(265,152),(478,153),(253,154),(266,155),(267,156),(270,157),(271,158),(273,159),(275,160),(490,204),(491,205),(492,206),(493,207),(244,99),(301,100),(284,102),(75,208),(76,209),(8,187),(487,201),(494,210),(495,211),(292,163),(167,212),(204,213),(80,214),(142,215),(6,87),(486,200),(488,202),(489,203),(455,103),(456,104),(457,105),(458,106),(32,195),(74,216),(71,217),(496,218),(73,221),(499,222),(285,223),(286,224),(287,225),(171,193),(288,226),(289,227),(290,228),(291,229),(500,230),(31,231),(501,232),(217,234),(304,235),(303,236),(302,237),(308,238),(178,239),(309,240),(211,241),(311,242),(213,243),(91,244),(505,269),(506,270),(507,271),(186,188),(203,189),(81,190),(298,192),(299,191),(316,194),(313,196),(502,266),(168,245),(187,246),(4,247),(95,272),(96,273),(169,167),(503,267),(504,268),(483,197),(484,198),(485,199),(314,276),(192,261),(82,277),(84,278),(200,279),(88,280),(312,281),(206,282),(17,283),(220,286),(221,287),(7,262),(97,263),(98,264),(315,265),(188,288),(189,289),(195,290),(5,250),(191,293),(319,296),(320,297),(100,298),(3,299),(10,303),(12,304),(25,305),(225,309),(226,310),(22,294),(105,315),(106,314),(29,320),(30,321),(69,92),(497,219),(498,220),(307,233),(170,260),(317,284),(318,285),(190,292),(222,300),(102,301),(103,302),(23,306),(227,311)]
def storeTab:List (Nat×Fn):=[(403,.code F403),(398,.code F398),(404,.code F404),(400,.code F400),(405,.code F405),(406,.code F406),(407,.code F407),(408,.code F408),(399,.code F399),(409,.code F409),(242,.code F242),(410,.code F410),(360,.code F360),(38,.code F38),(411,.code F411),(339,.code F339),(395,.code F395),(420,.code F420),(413,.code F413),(425,.code F425),(37,.code F37),(426,.code F426),(414,.code F414),(427,.code F427),(40,.code F40),(428,.code F428),(51,.code F51),(429,.code F429),(368,.code F368),(39,.code F39),(430,.code F430),(41,.code F41),(431,.code F431),(432,.code F432),(45,.code F45),(250,.code F250),(52,.code F52),(433,.code F433),(372,.code F372),(434,.codeR F434 0),(435,.codeR F435 0),(436,.codeR F436 0),(246,.code F246),(424,.code F424),(397,.code F397),(401,.code F401),(345,.code F345),(43,.code F43),(341,.code F341),(439,.code F439),(440,.code F440),(15,.code F15),(442,.code F442),(60,.code F60),(61,.code F61),(62,.code F62),(42,.code F42),(445,.code F445),(24,.code F24),(462,.code F462),(463,.code F463),(68,.code F68),(464,.codeR F464 0),(465,.codeR F465 0),(466,.codeR F466 0),(467,.codeR F467 0),(249,.code F249),(72,.code F72),(63,.code F63),(64,.code F64),(65,.code F65),(66,.code F66),(67,.code F67),(468,.code F468),(70,.code F70),(202,.code F202),(86,.code F86),(101,.code F101),(153,.code F153),(469,.code F469),(470,.code F470),(471,.codeR F471 0),(472,.codeR F472 0),(293,.code F293),(245,.code F245),(300,.code F300),(459,.code F459),(460,.code F460),(461,.code F461),(421,.codeR F421 0),(422,.codeR F422 0),(423,.codeR F423 0),(366,.code F366),(367,.code F367),(28,.code F28),(473,.code F473),(474,.code F474),(240,.code F240),(26,.code F26),(27,.code F27),(47,.code F47),(490,.code F490),(491,.code F491),(492,.codeR F492 0),(493,.codeR F493 0),(244,.code F244),(301,.code F301),(284,.code F284),(75,.code F75),(76,.code F76),(8,.code F8),(487,.code F487),(494,.code F494),(495,.code F495),(292,.code F292),(167,.code F167),(204,.code F204),(80,.code F80),(142,.code F142),(6,.code F6),(486,.code F486),(488,.code F488),(489,.code F489),(455,.code F455),(456,.code F456),(457,.codeR F457 0),(458,.codeR F458 0),(32,.code F32),(71,.code F71),(496,.code F496),(499,.code F499),(285,.code F285),(287,.code F287),(171,.code F171),(288,.code F288),(289,.code F289),(290,.code F290),(31,.code F31),(304,.code F304),(505,.code F505),(506,.code F506),(507,.code F507),(186,.code F186),(203,.code F203),(81,.code F81),(298,.code F298),(299,.code F299),(316,.code F316),(313,.code F313),(502,.code F502),(168,.code F168),(187,.code F187),(4,.code F4),(95,.code F95),(96,.code F96),(169,.code F169),(503,.code F503),(504,.code F504),(483,.code F483),(484,.code F484),(485,.code F485),(314,.code F314),(192,.code F192),(82,.code F82),(84,.code F84),(200,.code F200),(88,.code F88),(312,.code F312),(220,.code F220),(221,.code F221),(7,.code F7),(97,.code F97),(98,.code F98),(315,.code F315),(188,.code F188),(189,.code F189),(195,.code F195),(5,.code F5),(319,.code F319),(320,.code F320),(100,.code F100),(3,.code F3),(225,.code F225),(22,.code F22),(106,.code F106),(69,.prim (some 0) (cloneQ 1)),(497,.prim (some 0) (cloneQ 9)),(498,.prim (some 1009) noQ),(307,.prim (some 0) (cloneQ 17)),(170,.prim none keyQ),(317,.prim (some 1017) noQ),(190,.prim none decQ),(222,.prim (some 1002) noQ),(102,.prim (some 0) (cloneQ 11)),(103,.prim (some 1011) noQ),(23,.prim (some 0) (cloneQ 5)),(227,.prim (some 0) (cloneQ 2))]
set_option maxRecDepth 100000
theorem okc {P:Go.Program} {cx:Cx} {tab:List (Nat×Fn)} {k:Nat} {F:F} {l:List (Nat×Fn)} (h:okF P cx (look tab) (cx.fm k) F=true) (t:okTab P cx tab l=true):okTab P cx tab ((k,.code F)::l)=true:=by simp[okTab,h,t]
theorem okcr {P:Go.Program} {cx:Cx} {tab:List (Nat×Fn)} {k j:Nat} {F:F} {l:List (Nat×Fn)} (h:okF P cx (look tab) (cx.fm k) F=true) (h2:rfQ F j=true) (t:okTab P cx tab l=true):okTab P cx tab ((k,.codeR F j)::l)=true:=by simp[okTab,h,h2,t]
theorem okp {P:Go.Program} {cx:Cx} {tab:List (Nat×Fn)} {k:Nat} {o:Option Nat} {p} {l:List (Nat×Fn)} (h:plQ o=true) (t:okTab P cx tab l=true):okTab P cx tab ((k,.prim o p)::l)=true:=by simp[okTab,h,t]
theorem ok403:okF Tryz.prog (cxU storeFm) (look storeTab) ((cxU storeFm).fm 403) F403=true:=by kernel_rfl
theorem ok398:okF Tryz.prog (cxU storeFm) (look storeTab) ((cxU storeFm).fm 398) F398=true:=by kernel_rfl
theorem ok404:okF Tryz.prog (cxU storeFm) (look storeTab) ((cxU storeFm).fm 404) F404=true:=by kernel_rfl
theorem ok400:okF Tryz.prog (cxU storeFm) (look storeTab) ((cxU storeFm).fm 400) F400=true:=by kernel_rfl
theorem ok405:okF Tryz.prog (cxU storeFm) (look storeTab) ((cxU storeFm).fm 405) F405=true:=by kernel_rfl
theorem ok406:okF Tryz.prog (cxU storeFm) (look storeTab) ((cxU storeFm).fm 406) F406=true:=by kernel_rfl
theorem ok407:okF Tryz.prog (cxU storeFm) (look storeTab) ((cxU storeFm).fm 407) F407=true:=by kernel_rfl
theorem ok408:okF Tryz.prog (cxU storeFm) (look storeTab) ((cxU storeFm).fm 408) F408=true:=by kernel_rfl
theorem ok399:okF Tryz.prog (cxU storeFm) (look storeTab) ((cxU storeFm).fm 399) F399=true:=by kernel_rfl
theorem ok409:okF Tryz.prog (cxU storeFm) (look storeTab) ((cxU storeFm).fm 409) F409=true:=by kernel_rfl
theorem ok242:okF Tryz.prog (cxU storeFm) (look storeTab) ((cxU storeFm).fm 242) F242=true:=by kernel_rfl
theorem ok410:okF Tryz.prog (cxU storeFm) (look storeTab) ((cxU storeFm).fm 410) F410=true:=by kernel_rfl
theorem ok360:okF Tryz.prog (cxU storeFm) (look storeTab) ((cxU storeFm).fm 360) F360=true:=by kernel_rfl
theorem ok38:okF Tryz.prog (cxU storeFm) (look storeTab) ((cxU storeFm).fm 38) F38=true:=by kernel_rfl
theorem ok411:okF Tryz.prog (cxU storeFm) (look storeTab) ((cxU storeFm).fm 411) F411=true:=by kernel_rfl
theorem ok339:okF Tryz.prog (cxU storeFm) (look storeTab) ((cxU storeFm).fm 339) F339=true:=by kernel_rfl
theorem ok395:okF Tryz.prog (cxU storeFm) (look storeTab) ((cxU storeFm).fm 395) F395=true:=by kernel_rfl
theorem ok420:okF Tryz.prog (cxU storeFm) (look storeTab) ((cxU storeFm).fm 420) F420=true:=by kernel_rfl
theorem ok413:okF Tryz.prog (cxU storeFm) (look storeTab) ((cxU storeFm).fm 413) F413=true:=by kernel_rfl
theorem ok425:okF Tryz.prog (cxU storeFm) (look storeTab) ((cxU storeFm).fm 425) F425=true:=by kernel_rfl
theorem ok37:okF Tryz.prog (cxU storeFm) (look storeTab) ((cxU storeFm).fm 37) F37=true:=by kernel_rfl
theorem ok426:okF Tryz.prog (cxU storeFm) (look storeTab) ((cxU storeFm).fm 426) F426=true:=by kernel_rfl
theorem ok414:okF Tryz.prog (cxU storeFm) (look storeTab) ((cxU storeFm).fm 414) F414=true:=by kernel_rfl
theorem ok427:okF Tryz.prog (cxU storeFm) (look storeTab) ((cxU storeFm).fm 427) F427=true:=by kernel_rfl
theorem ok40:okF Tryz.prog (cxU storeFm) (look storeTab) ((cxU storeFm).fm 40) F40=true:=by kernel_rfl
theorem ok428:okF Tryz.prog (cxU storeFm) (look storeTab) ((cxU storeFm).fm 428) F428=true:=by kernel_rfl
theorem ok51:okF Tryz.prog (cxU storeFm) (look storeTab) ((cxU storeFm).fm 51) F51=true:=by kernel_rfl
theorem ok429:okF Tryz.prog (cxU storeFm) (look storeTab) ((cxU storeFm).fm 429) F429=true:=by kernel_rfl
theorem ok368:okF Tryz.prog (cxU storeFm) (look storeTab) ((cxU storeFm).fm 368) F368=true:=by kernel_rfl
theorem ok39:okF Tryz.prog (cxU storeFm) (look storeTab) ((cxU storeFm).fm 39) F39=true:=by kernel_rfl
theorem ok430:okF Tryz.prog (cxU storeFm) (look storeTab) ((cxU storeFm).fm 430) F430=true:=by kernel_rfl
theorem ok41:okF Tryz.prog (cxU storeFm) (look storeTab) ((cxU storeFm).fm 41) F41=true:=by kernel_rfl
theorem ok431:okF Tryz.prog (cxU storeFm) (look storeTab) ((cxU storeFm).fm 431) F431=true:=by kernel_rfl
theorem ok432:okF Tryz.prog (cxU storeFm) (look storeTab) ((cxU storeFm).fm 432) F432=true:=by kernel_rfl
theorem ok45:okF Tryz.prog (cxU storeFm) (look storeTab) ((cxU storeFm).fm 45) F45=true:=by kernel_rfl
theorem ok250:okF Tryz.prog (cxU storeFm) (look storeTab) ((cxU storeFm).fm 250) F250=true:=by kernel_rfl
theorem ok52:okF Tryz.prog (cxU storeFm) (look storeTab) ((cxU storeFm).fm 52) F52=true:=by kernel_rfl
theorem ok433:okF Tryz.prog (cxU storeFm) (look storeTab) ((cxU storeFm).fm 433) F433=true:=by kernel_rfl
theorem ok372:okF Tryz.prog (cxU storeFm) (look storeTab) ((cxU storeFm).fm 372) F372=true:=by kernel_rfl
theorem ok434:okF Tryz.prog (cxU storeFm) (look storeTab) ((cxU storeFm).fm 434) F434=true:=by kernel_rfl
theorem ok435:okF Tryz.prog (cxU storeFm) (look storeTab) ((cxU storeFm).fm 435) F435=true:=by kernel_rfl
theorem ok436:okF Tryz.prog (cxU storeFm) (look storeTab) ((cxU storeFm).fm 436) F436=true:=by kernel_rfl
theorem ok246:okF Tryz.prog (cxU storeFm) (look storeTab) ((cxU storeFm).fm 246) F246=true:=by kernel_rfl
theorem ok424:okF Tryz.prog (cxU storeFm) (look storeTab) ((cxU storeFm).fm 424) F424=true:=by kernel_rfl
theorem ok397:okF Tryz.prog (cxU storeFm) (look storeTab) ((cxU storeFm).fm 397) F397=true:=by kernel_rfl
theorem ok401:okF Tryz.prog (cxU storeFm) (look storeTab) ((cxU storeFm).fm 401) F401=true:=by kernel_rfl
theorem ok345:okF Tryz.prog (cxU storeFm) (look storeTab) ((cxU storeFm).fm 345) F345=true:=by kernel_rfl
theorem ok43:okF Tryz.prog (cxU storeFm) (look storeTab) ((cxU storeFm).fm 43) F43=true:=by kernel_rfl
theorem ok341:okF Tryz.prog (cxU storeFm) (look storeTab) ((cxU storeFm).fm 341) F341=true:=by kernel_rfl
theorem ok439:okF Tryz.prog (cxU storeFm) (look storeTab) ((cxU storeFm).fm 439) F439=true:=by kernel_rfl
theorem ok440:okF Tryz.prog (cxU storeFm) (look storeTab) ((cxU storeFm).fm 440) F440=true:=by kernel_rfl
theorem ok15:okF Tryz.prog (cxU storeFm) (look storeTab) ((cxU storeFm).fm 15) F15=true:=by kernel_rfl
theorem ok442:okF Tryz.prog (cxU storeFm) (look storeTab) ((cxU storeFm).fm 442) F442=true:=by kernel_rfl
theorem ok60:okF Tryz.prog (cxU storeFm) (look storeTab) ((cxU storeFm).fm 60) F60=true:=by kernel_rfl
theorem ok61:okF Tryz.prog (cxU storeFm) (look storeTab) ((cxU storeFm).fm 61) F61=true:=by kernel_rfl
theorem ok62:okF Tryz.prog (cxU storeFm) (look storeTab) ((cxU storeFm).fm 62) F62=true:=by kernel_rfl
theorem ok42:okF Tryz.prog (cxU storeFm) (look storeTab) ((cxU storeFm).fm 42) F42=true:=by kernel_rfl
theorem ok445:okF Tryz.prog (cxU storeFm) (look storeTab) ((cxU storeFm).fm 445) F445=true:=by kernel_rfl
theorem ok24:okF Tryz.prog (cxU storeFm) (look storeTab) ((cxU storeFm).fm 24) F24=true:=by kernel_rfl
theorem ok462:okF Tryz.prog (cxU storeFm) (look storeTab) ((cxU storeFm).fm 462) F462=true:=by kernel_rfl
theorem ok463:okF Tryz.prog (cxU storeFm) (look storeTab) ((cxU storeFm).fm 463) F463=true:=by kernel_rfl
theorem ok68:okF Tryz.prog (cxU storeFm) (look storeTab) ((cxU storeFm).fm 68) F68=true:=by kernel_rfl
theorem ok464:okF Tryz.prog (cxU storeFm) (look storeTab) ((cxU storeFm).fm 464) F464=true:=by kernel_rfl
theorem ok465:okF Tryz.prog (cxU storeFm) (look storeTab) ((cxU storeFm).fm 465) F465=true:=by kernel_rfl
theorem ok466:okF Tryz.prog (cxU storeFm) (look storeTab) ((cxU storeFm).fm 466) F466=true:=by kernel_rfl
theorem ok467:okF Tryz.prog (cxU storeFm) (look storeTab) ((cxU storeFm).fm 467) F467=true:=by kernel_rfl
theorem ok249:okF Tryz.prog (cxU storeFm) (look storeTab) ((cxU storeFm).fm 249) F249=true:=by kernel_rfl
theorem ok72:okF Tryz.prog (cxU storeFm) (look storeTab) ((cxU storeFm).fm 72) F72=true:=by kernel_rfl
theorem ok63:okF Tryz.prog (cxU storeFm) (look storeTab) ((cxU storeFm).fm 63) F63=true:=by kernel_rfl
theorem ok64:okF Tryz.prog (cxU storeFm) (look storeTab) ((cxU storeFm).fm 64) F64=true:=by kernel_rfl
theorem ok65:okF Tryz.prog (cxU storeFm) (look storeTab) ((cxU storeFm).fm 65) F65=true:=by kernel_rfl
theorem ok66:okF Tryz.prog (cxU storeFm) (look storeTab) ((cxU storeFm).fm 66) F66=true:=by kernel_rfl
theorem ok67:okF Tryz.prog (cxU storeFm) (look storeTab) ((cxU storeFm).fm 67) F67=true:=by kernel_rfl
theorem ok468:okF Tryz.prog (cxU storeFm) (look storeTab) ((cxU storeFm).fm 468) F468=true:=by kernel_rfl
theorem ok70:okF Tryz.prog (cxU storeFm) (look storeTab) ((cxU storeFm).fm 70) F70=true:=by kernel_rfl
theorem ok202:okF Tryz.prog (cxU storeFm) (look storeTab) ((cxU storeFm).fm 202) F202=true:=by kernel_rfl
theorem ok86:okF Tryz.prog (cxU storeFm) (look storeTab) ((cxU storeFm).fm 86) F86=true:=by kernel_rfl
theorem ok101:okF Tryz.prog (cxU storeFm) (look storeTab) ((cxU storeFm).fm 101) F101=true:=by kernel_rfl
theorem ok153:okF Tryz.prog (cxU storeFm) (look storeTab) ((cxU storeFm).fm 153) F153=true:=by kernel_rfl
theorem ok469:okF Tryz.prog (cxU storeFm) (look storeTab) ((cxU storeFm).fm 469) F469=true:=by kernel_rfl
theorem ok470:okF Tryz.prog (cxU storeFm) (look storeTab) ((cxU storeFm).fm 470) F470=true:=by kernel_rfl
theorem ok471:okF Tryz.prog (cxU storeFm) (look storeTab) ((cxU storeFm).fm 471) F471=true:=by kernel_rfl
theorem ok472:okF Tryz.prog (cxU storeFm) (look storeTab) ((cxU storeFm).fm 472) F472=true:=by kernel_rfl
theorem ok293:okF Tryz.prog (cxU storeFm) (look storeTab) ((cxU storeFm).fm 293) F293=true:=by kernel_rfl
theorem ok245:okF Tryz.prog (cxU storeFm) (look storeTab) ((cxU storeFm).fm 245) F245=true:=by kernel_rfl
theorem ok300:okF Tryz.prog (cxU storeFm) (look storeTab) ((cxU storeFm).fm 300) F300=true:=by kernel_rfl
theorem ok459:okF Tryz.prog (cxU storeFm) (look storeTab) ((cxU storeFm).fm 459) F459=true:=by kernel_rfl
theorem ok460:okF Tryz.prog (cxU storeFm) (look storeTab) ((cxU storeFm).fm 460) F460=true:=by kernel_rfl
theorem ok461:okF Tryz.prog (cxU storeFm) (look storeTab) ((cxU storeFm).fm 461) F461=true:=by kernel_rfl
theorem ok421:okF Tryz.prog (cxU storeFm) (look storeTab) ((cxU storeFm).fm 421) F421=true:=by kernel_rfl
theorem ok422:okF Tryz.prog (cxU storeFm) (look storeTab) ((cxU storeFm).fm 422) F422=true:=by kernel_rfl
theorem ok423:okF Tryz.prog (cxU storeFm) (look storeTab) ((cxU storeFm).fm 423) F423=true:=by kernel_rfl
theorem ok366:okF Tryz.prog (cxU storeFm) (look storeTab) ((cxU storeFm).fm 366) F366=true:=by kernel_rfl
theorem ok367:okF Tryz.prog (cxU storeFm) (look storeTab) ((cxU storeFm).fm 367) F367=true:=by kernel_rfl
theorem ok28:okF Tryz.prog (cxU storeFm) (look storeTab) ((cxU storeFm).fm 28) F28=true:=by kernel_rfl
theorem ok473:okF Tryz.prog (cxU storeFm) (look storeTab) ((cxU storeFm).fm 473) F473=true:=by kernel_rfl
theorem ok474:okF Tryz.prog (cxU storeFm) (look storeTab) ((cxU storeFm).fm 474) F474=true:=by kernel_rfl
theorem ok240:okF Tryz.prog (cxU storeFm) (look storeTab) ((cxU storeFm).fm 240) F240=true:=by kernel_rfl
theorem ok26:okF Tryz.prog (cxU storeFm) (look storeTab) ((cxU storeFm).fm 26) F26=true:=by kernel_rfl
theorem ok27:okF Tryz.prog (cxU storeFm) (look storeTab) ((cxU storeFm).fm 27) F27=true:=by kernel_rfl
theorem ok47:okF Tryz.prog (cxU storeFm) (look storeTab) ((cxU storeFm).fm 47) F47=true:=by kernel_rfl
theorem ok490:okF Tryz.prog (cxU storeFm) (look storeTab) ((cxU storeFm).fm 490) F490=true:=by kernel_rfl
theorem ok491:okF Tryz.prog (cxU storeFm) (look storeTab) ((cxU storeFm).fm 491) F491=true:=by kernel_rfl
theorem ok492:okF Tryz.prog (cxU storeFm) (look storeTab) ((cxU storeFm).fm 492) F492=true:=by kernel_rfl
theorem ok493:okF Tryz.prog (cxU storeFm) (look storeTab) ((cxU storeFm).fm 493) F493=true:=by kernel_rfl
theorem ok244:okF Tryz.prog (cxU storeFm) (look storeTab) ((cxU storeFm).fm 244) F244=true:=by kernel_rfl
theorem ok301:okF Tryz.prog (cxU storeFm) (look storeTab) ((cxU storeFm).fm 301) F301=true:=by kernel_rfl
theorem ok284:okF Tryz.prog (cxU storeFm) (look storeTab) ((cxU storeFm).fm 284) F284=true:=by kernel_rfl
theorem ok75:okF Tryz.prog (cxU storeFm) (look storeTab) ((cxU storeFm).fm 75) F75=true:=by kernel_rfl
theorem ok76:okF Tryz.prog (cxU storeFm) (look storeTab) ((cxU storeFm).fm 76) F76=true:=by kernel_rfl
theorem ok8:okF Tryz.prog (cxU storeFm) (look storeTab) ((cxU storeFm).fm 8) F8=true:=by kernel_rfl
theorem ok487:okF Tryz.prog (cxU storeFm) (look storeTab) ((cxU storeFm).fm 487) F487=true:=by kernel_rfl
theorem ok494:okF Tryz.prog (cxU storeFm) (look storeTab) ((cxU storeFm).fm 494) F494=true:=by kernel_rfl
theorem ok495:okF Tryz.prog (cxU storeFm) (look storeTab) ((cxU storeFm).fm 495) F495=true:=by kernel_rfl
theorem ok292:okF Tryz.prog (cxU storeFm) (look storeTab) ((cxU storeFm).fm 292) F292=true:=by kernel_rfl
theorem ok167:okF Tryz.prog (cxU storeFm) (look storeTab) ((cxU storeFm).fm 167) F167=true:=by kernel_rfl
theorem ok204:okF Tryz.prog (cxU storeFm) (look storeTab) ((cxU storeFm).fm 204) F204=true:=by kernel_rfl
theorem ok80:okF Tryz.prog (cxU storeFm) (look storeTab) ((cxU storeFm).fm 80) F80=true:=by kernel_rfl
theorem ok142:okF Tryz.prog (cxU storeFm) (look storeTab) ((cxU storeFm).fm 142) F142=true:=by kernel_rfl
theorem ok6:okF Tryz.prog (cxU storeFm) (look storeTab) ((cxU storeFm).fm 6) F6=true:=by kernel_rfl
theorem ok486:okF Tryz.prog (cxU storeFm) (look storeTab) ((cxU storeFm).fm 486) F486=true:=by kernel_rfl
theorem ok488:okF Tryz.prog (cxU storeFm) (look storeTab) ((cxU storeFm).fm 488) F488=true:=by kernel_rfl
theorem ok489:okF Tryz.prog (cxU storeFm) (look storeTab) ((cxU storeFm).fm 489) F489=true:=by kernel_rfl
theorem ok455:okF Tryz.prog (cxU storeFm) (look storeTab) ((cxU storeFm).fm 455) F455=true:=by kernel_rfl
theorem ok456:okF Tryz.prog (cxU storeFm) (look storeTab) ((cxU storeFm).fm 456) F456=true:=by kernel_rfl
theorem ok457:okF Tryz.prog (cxU storeFm) (look storeTab) ((cxU storeFm).fm 457) F457=true:=by kernel_rfl
theorem ok458:okF Tryz.prog (cxU storeFm) (look storeTab) ((cxU storeFm).fm 458) F458=true:=by kernel_rfl
theorem ok32:okF Tryz.prog (cxU storeFm) (look storeTab) ((cxU storeFm).fm 32) F32=true:=by kernel_rfl
theorem ok71:okF Tryz.prog (cxU storeFm) (look storeTab) ((cxU storeFm).fm 71) F71=true:=by kernel_rfl
theorem ok496:okF Tryz.prog (cxU storeFm) (look storeTab) ((cxU storeFm).fm 496) F496=true:=by kernel_rfl
theorem ok499:okF Tryz.prog (cxU storeFm) (look storeTab) ((cxU storeFm).fm 499) F499=true:=by kernel_rfl
theorem ok285:okF Tryz.prog (cxU storeFm) (look storeTab) ((cxU storeFm).fm 285) F285=true:=by kernel_rfl
theorem ok287:okF Tryz.prog (cxU storeFm) (look storeTab) ((cxU storeFm).fm 287) F287=true:=by kernel_rfl
theorem ok171:okF Tryz.prog (cxU storeFm) (look storeTab) ((cxU storeFm).fm 171) F171=true:=by kernel_rfl
theorem ok288:okF Tryz.prog (cxU storeFm) (look storeTab) ((cxU storeFm).fm 288) F288=true:=by kernel_rfl
theorem ok289:okF Tryz.prog (cxU storeFm) (look storeTab) ((cxU storeFm).fm 289) F289=true:=by kernel_rfl
theorem ok290:okF Tryz.prog (cxU storeFm) (look storeTab) ((cxU storeFm).fm 290) F290=true:=by kernel_rfl
theorem ok31:okF Tryz.prog (cxU storeFm) (look storeTab) ((cxU storeFm).fm 31) F31=true:=by kernel_rfl
theorem ok304:okF Tryz.prog (cxU storeFm) (look storeTab) ((cxU storeFm).fm 304) F304=true:=by kernel_rfl
theorem ok505:okF Tryz.prog (cxU storeFm) (look storeTab) ((cxU storeFm).fm 505) F505=true:=by kernel_rfl
theorem ok506:okF Tryz.prog (cxU storeFm) (look storeTab) ((cxU storeFm).fm 506) F506=true:=by kernel_rfl
theorem ok507:okF Tryz.prog (cxU storeFm) (look storeTab) ((cxU storeFm).fm 507) F507=true:=by kernel_rfl
theorem ok186:okF Tryz.prog (cxU storeFm) (look storeTab) ((cxU storeFm).fm 186) F186=true:=by kernel_rfl
theorem ok203:okF Tryz.prog (cxU storeFm) (look storeTab) ((cxU storeFm).fm 203) F203=true:=by kernel_rfl
theorem ok81:okF Tryz.prog (cxU storeFm) (look storeTab) ((cxU storeFm).fm 81) F81=true:=by kernel_rfl
theorem ok298:okF Tryz.prog (cxU storeFm) (look storeTab) ((cxU storeFm).fm 298) F298=true:=by kernel_rfl
theorem ok299:okF Tryz.prog (cxU storeFm) (look storeTab) ((cxU storeFm).fm 299) F299=true:=by kernel_rfl
theorem ok316:okF Tryz.prog (cxU storeFm) (look storeTab) ((cxU storeFm).fm 316) F316=true:=by kernel_rfl
theorem ok313:okF Tryz.prog (cxU storeFm) (look storeTab) ((cxU storeFm).fm 313) F313=true:=by kernel_rfl
theorem ok502:okF Tryz.prog (cxU storeFm) (look storeTab) ((cxU storeFm).fm 502) F502=true:=by kernel_rfl
theorem ok168:okF Tryz.prog (cxU storeFm) (look storeTab) ((cxU storeFm).fm 168) F168=true:=by kernel_rfl
theorem ok187:okF Tryz.prog (cxU storeFm) (look storeTab) ((cxU storeFm).fm 187) F187=true:=by kernel_rfl
theorem ok4:okF Tryz.prog (cxU storeFm) (look storeTab) ((cxU storeFm).fm 4) F4=true:=by kernel_rfl
theorem ok95:okF Tryz.prog (cxU storeFm) (look storeTab) ((cxU storeFm).fm 95) F95=true:=by kernel_rfl
theorem ok96:okF Tryz.prog (cxU storeFm) (look storeTab) ((cxU storeFm).fm 96) F96=true:=by kernel_rfl
theorem ok169:okF Tryz.prog (cxU storeFm) (look storeTab) ((cxU storeFm).fm 169) F169=true:=by kernel_rfl
theorem ok503:okF Tryz.prog (cxU storeFm) (look storeTab) ((cxU storeFm).fm 503) F503=true:=by kernel_rfl
theorem ok504:okF Tryz.prog (cxU storeFm) (look storeTab) ((cxU storeFm).fm 504) F504=true:=by kernel_rfl
theorem ok483:okF Tryz.prog (cxU storeFm) (look storeTab) ((cxU storeFm).fm 483) F483=true:=by kernel_rfl
theorem ok484:okF Tryz.prog (cxU storeFm) (look storeTab) ((cxU storeFm).fm 484) F484=true:=by kernel_rfl
theorem ok485:okF Tryz.prog (cxU storeFm) (look storeTab) ((cxU storeFm).fm 485) F485=true:=by kernel_rfl
theorem ok314:okF Tryz.prog (cxU storeFm) (look storeTab) ((cxU storeFm).fm 314) F314=true:=by kernel_rfl
theorem ok192:okF Tryz.prog (cxU storeFm) (look storeTab) ((cxU storeFm).fm 192) F192=true:=by kernel_rfl
theorem ok82:okF Tryz.prog (cxU storeFm) (look storeTab) ((cxU storeFm).fm 82) F82=true:=by kernel_rfl
theorem ok84:okF Tryz.prog (cxU storeFm) (look storeTab) ((cxU storeFm).fm 84) F84=true:=by kernel_rfl
theorem ok200:okF Tryz.prog (cxU storeFm) (look storeTab) ((cxU storeFm).fm 200) F200=true:=by kernel_rfl
theorem ok88:okF Tryz.prog (cxU storeFm) (look storeTab) ((cxU storeFm).fm 88) F88=true:=by kernel_rfl
theorem ok312:okF Tryz.prog (cxU storeFm) (look storeTab) ((cxU storeFm).fm 312) F312=true:=by kernel_rfl
theorem ok220:okF Tryz.prog (cxU storeFm) (look storeTab) ((cxU storeFm).fm 220) F220=true:=by kernel_rfl
theorem ok221:okF Tryz.prog (cxU storeFm) (look storeTab) ((cxU storeFm).fm 221) F221=true:=by kernel_rfl
theorem ok7:okF Tryz.prog (cxU storeFm) (look storeTab) ((cxU storeFm).fm 7) F7=true:=by kernel_rfl
theorem ok97:okF Tryz.prog (cxU storeFm) (look storeTab) ((cxU storeFm).fm 97) F97=true:=by kernel_rfl
theorem ok98:okF Tryz.prog (cxU storeFm) (look storeTab) ((cxU storeFm).fm 98) F98=true:=by kernel_rfl
theorem ok315:okF Tryz.prog (cxU storeFm) (look storeTab) ((cxU storeFm).fm 315) F315=true:=by kernel_rfl
theorem ok188:okF Tryz.prog (cxU storeFm) (look storeTab) ((cxU storeFm).fm 188) F188=true:=by kernel_rfl
theorem ok189:okF Tryz.prog (cxU storeFm) (look storeTab) ((cxU storeFm).fm 189) F189=true:=by kernel_rfl
theorem ok195:okF Tryz.prog (cxU storeFm) (look storeTab) ((cxU storeFm).fm 195) F195=true:=by kernel_rfl
theorem ok5:okF Tryz.prog (cxU storeFm) (look storeTab) ((cxU storeFm).fm 5) F5=true:=by kernel_rfl
theorem ok319:okF Tryz.prog (cxU storeFm) (look storeTab) ((cxU storeFm).fm 319) F319=true:=by kernel_rfl
theorem ok320:okF Tryz.prog (cxU storeFm) (look storeTab) ((cxU storeFm).fm 320) F320=true:=by kernel_rfl
theorem ok100:okF Tryz.prog (cxU storeFm) (look storeTab) ((cxU storeFm).fm 100) F100=true:=by kernel_rfl
theorem ok3:okF Tryz.prog (cxU storeFm) (look storeTab) ((cxU storeFm).fm 3) F3=true:=by kernel_rfl
theorem ok225:okF Tryz.prog (cxU storeFm) (look storeTab) ((cxU storeFm).fm 225) F225=true:=by kernel_rfl
theorem ok22:okF Tryz.prog (cxU storeFm) (look storeTab) ((cxU storeFm).fm 22) F22=true:=by kernel_rfl
theorem ok106:okF Tryz.prog (cxU storeFm) (look storeTab) ((cxU storeFm).fm 106) F106=true:=by kernel_rfl
theorem okAll:okTab Tryz.prog (cxU storeFm) storeTab storeTab=true:=okc ok403 (okc ok398 (okc ok404 (okc ok400 (okc ok405 (okc ok406 (okc ok407 (okc ok408 (okc ok399 (okc ok409 (okc ok242 (okc ok410 (okc ok360 (okc ok38 (okc ok411 (okc ok339 (okc ok395 (okc ok420 (okc ok413 (okc ok425 (okc ok37 (okc ok426 (okc ok414 (okc ok427 (okc ok40 (okc ok428 (okc ok51 (okc ok429 (okc ok368 (okc ok39 (okc ok430 (okc ok41 (okc ok431 (okc ok432 (okc ok45 (okc ok250 (okc ok52 (okc ok433 (okc ok372 (okcr ok434 rfl (okcr ok435 rfl (okcr ok436 rfl (okc ok246 (okc ok424 (okc ok397 (okc ok401 (okc ok345 (okc ok43 (okc ok341 (okc ok439 (okc ok440 (okc ok15 (okc ok442 (okc ok60 (okc ok61 (okc ok62 (okc ok42 (okc ok445 (okc ok24 (okc ok462 (okc ok463 (okc ok68 (okcr ok464 rfl (okcr ok465 rfl (okcr ok466 rfl (okcr ok467 rfl (okc ok249 (okc ok72 (okc ok63 (okc ok64 (okc ok65 (okc ok66 (okc ok67 (okc ok468 (okc ok70 (okc ok202 (okc ok86 (okc ok101 (okc ok153 (okc ok469 (okc ok470 (okcr ok471 rfl (okcr ok472 rfl (okc ok293 (okc ok245 (okc ok300 (okc ok459 (okc ok460 (okc ok461 (okcr ok421 rfl (okcr ok422 rfl (okcr ok423 rfl (okc ok366 (okc ok367 (okc ok28 (okc ok473 (okc ok474 (okc ok240 (okc ok26 (okc ok27 (okc ok47 (okc ok490 (okc ok491 (okcr ok492 rfl (okcr ok493 rfl (okc ok244 (okc ok301 (okc ok284 (okc ok75 (okc ok76 (okc ok8 (okc ok487 (okc ok494 (okc ok495 (okc ok292 (okc ok167 (okc ok204 (okc ok80 (okc ok142 (okc ok6 (okc ok486 (okc ok488 (okc ok489 (okc ok455 (okc ok456 (okcr ok457 rfl (okcr ok458 rfl (okc ok32 (okc ok71 (okc ok496 (okc ok499 (okc ok285 (okc ok287 (okc ok171 (okc ok288 (okc ok289 (okc ok290 (okc ok31 (okc ok304 (okc ok505 (okc ok506 (okc ok507 (okc ok186 (okc ok203 (okc ok81 (okc ok298 (okc ok299 (okc ok316 (okc ok313 (okc ok502 (okc ok168 (okc ok187 (okc ok4 (okc ok95 (okc ok96 (okc ok169 (okc ok503 (okc ok504 (okc ok483 (okc ok484 (okc ok485 (okc ok314 (okc ok192 (okc ok82 (okc ok84 (okc ok200 (okc ok88 (okc ok312 (okc ok220 (okc ok221 (okc ok7 (okc ok97 (okc ok98 (okc ok315 (okc ok188 (okc ok189 (okc ok195 (okc ok5 (okc ok319 (okc ok320 (okc ok100 (okc ok3 (okc ok225 (okc ok22 (okc ok106 (okp rfl (okp rfl (okp rfl (okp rfl (okp rfl (okp rfl (okp rfl (okp rfl (okp rfl (okp rfl (okp rfl (okp rfl (rfl)))))))))))))))))))))))))))))))))))))))))))))))))))))))))))))))))))))))))))))))))))))))))))))))))))))))))))))))))))))))))))))))))))))))))))))))))))))))))))))))))))))))))))))))))))))))))))))))))))))
theorem okClone69:okF Tryz.prog (cxU storeFm) (onePg 69 (cloneF 1 [.int .i64 0])) 92 (cloneF 1 [.int .i64 0])=true:=by kernel_rfl
theorem okClone497:okF Tryz.prog (cxU storeFm) (onePg 497 (cloneF 9 [.int .i64 0,.int .i64 0,.int .i64 0,.slice 1 [],.int .i64 0,.str [],.str [],.slice 1 [],.slice 36 []])) 219 (cloneF 9 [.int .i64 0,.int .i64 0,.int .i64 0,.slice 1 [],.int .i64 0,.str [],.str [],.slice 1 [],.slice 36 []])=true:=by kernel_rfl
theorem okClone307:okF Tryz.prog (cxU storeFm) (onePg 307 (cloneF 17 [.int .i64 0,.int .i64 0,.str [],.str [],.int .i64 0,.slice 2 [],.int .i64 0,.int .i64 0,.int .i64 0,.int .i64 0,.int .i64 0,.int .i64 0,.slice 11 [],.int .i64 0,.int .i64 0,.int .i64 0,.int .i64 0])) 233 (cloneF 17 [.int .i64 0,.int .i64 0,.str [],.str [],.int .i64 0,.slice 2 [],.int .i64 0,.int .i64 0,.int .i64 0,.int .i64 0,.int .i64 0,.int .i64 0,.slice 11 [],.int .i64 0,.int .i64 0,.int .i64 0,.int .i64 0])=true:=by kernel_rfl
theorem okClone102:okF Tryz.prog (cxU storeFm) (onePg 102 (cloneF 11 [.int .i64 0,.int .i64 0,.int .i64 0,.int .i64 0,.int .i64 0,.int .i64 0,.bool false,.str [],.slice 2 [],.str [],.bool false])) 301 (cloneF 11 [.int .i64 0,.int .i64 0,.int .i64 0,.int .i64 0,.int .i64 0,.int .i64 0,.bool false,.str [],.slice 2 [],.str [],.bool false])=true:=by kernel_rfl
theorem okClone23:okF Tryz.prog (cxU storeFm) (onePg 23 (cloneF 5 [.int .i64 0,.int .i64 0,.int .i64 0,.bool false,.str []])) 306 (cloneF 5 [.int .i64 0,.int .i64 0,.int .i64 0,.bool false,.str []])=true:=by kernel_rfl
theorem okClone227:okF Tryz.prog (cxU storeFm) (onePg 227 (cloneF 2 [.str [],.slice 5 []])) 311 (cloneF 2 [.str [],.slice 5 []])=true:=by kernel_rfl
end Sg
namespace Sg
open Go Go.RowKit Go.Lib Go.Proofs
set_option maxHeartbeats 4000000 in
set_option maxRecDepth 100000 in
theorem ins220_shift (b off n c i vb voff m vc:Nat) (cs vs:List Value) (w:World) (hi:i<n) (hm:0<m) (hroom:n+m≤c) (hlim:n+m≤1073741824) (hvb:vb≠b)
  (hcl:cs.length=n*9) (hvl:vs.length=m*9)
  (hcs:∀j v,cs[j]?=some v→w.cell? ⟨b,off+j,none⟩=some v) (hsp:∀j,j<(n+m)*9→(w.cell? ⟨b,off+j,none⟩).isSome=true) (hfz:∀j,w.frozen? ⟨b,j,none⟩=false)
  (hvs:∀j v,vs[j]?=some v→w.cell? ⟨vb,voff+j,none⟩=some v) (h1c:∀v∈cs,v.oneCell'=true) (h1v:∀v∈vs,v.oneCell'=true)
  (tA tB:TypeId) (kA kB:Nat) (hsa:w.shape? vb=some (tA,kA)) (hsb:w.shape? b=some (tB,kB)) (hkA:kA≠0) :
  Calls Tryz.prog 220 #[.slice (some ⟨b,off,none⟩) n c,.int .i64 i,.slice (some ⟨vb,voff,none⟩) m vc] w fun e w'=>
   e=.returned (.slice (some ⟨b,off,none⟩) (n+m) c)∧w'=(w.drew.setCells b (off+(i+m)*9) (cs.drop (i*9))).setCells b (off+i*9) vs:=by
 have t0:=Tryz.underlying0;have t3:=Tryz.underlying3;have t4:=Tryz.underlying4;have t9:=Tryz.underlying105;have t24:=Tryz.underlying22
 have a0:=Tryz.isAgg0;have a3:=Tryz.isAgg3;have a4:=Tryz.isAgg4;have a9:=Tryz.isAgg105;have a24:=Tryz.isAgg22
 have z0:=Tryz.sizeOf0;have z3:=Tryz.sizeOf3;have z4:=Tryz.sizeOf4;have z9:=Tryz.sizeOf105;have z24:=Tryz.sizeOf22
 have v0:=Tryz.zeroValue0;have v3:=Tryz.zeroValue3;have v4:=Tryz.zeroValue4;have v24:=Tryz.zeroValue22
 have u0:=run_underlying t0;have u3:=run_underlying t3;have u4:=run_underlying t4;have u24:=run_underlying t24
 have hz1:¬((m:Int)=0):=by omega
 have hz2:¬((i:Int)=(n:Int)):=by omega
 have hsz:(Tryz.prog.info? 105).map (·.size)=some 9:=by kernel_rfl
 have hov:∀lb cb,(callFunc 274 #[.slice (some ⟨vb,voff,none⟩) m vc,.slice (some ⟨b,off+(i+m)*9,none⟩) lb cb]).run Tryz.prog w=.ok (.value (.bool false)) w:=fun lb cb=>by
  rw[run_callFunc_extern Tryz.func274 (by kernel_rfl) (by kernel_rfl) (by kernel_rfl) (e:=Extern.SlicesOverlaps.overlaps #[22,22] #[4]) (by kernel_rfl),
   run_overlaps_k w 22 4 105 t24 9 z9 ⟨vb,voff,none⟩ ⟨b,off+(i+m)*9,none⟩ m vc lb cb hvb tA tB kA kB hsa hsb hkA (hfz _) (hfz _)]
  rfl
 have hdl:(cs.drop (i*9)).length=(n-i)*9:=by rw[List.length_drop,hcl];omega
 have mixed:Tryz.prog.follows .mixedOrders=true:=by kernel_rfl
 have hw1:IntKind.i64.wrap ((i:Int)+(m:Int))=(i:Int)+(m:Int):=by rw[IntKind.wrap_i64];omega
 have hb1:(0:Int)≤(i:Int)+(m:Int):=by omega
 have hin:i≤n:=by omega
 have htn:((i:Int)+(m:Int)).toNat=i+m:=by omega
 have hb2:¬(c=i+m):=by omega
 have hb3:(i:Int)≤(n:Int)+(m:Int):=by omega
 have hb4:¬(c=i):=by omega
 have hcp1:∀ty dc sc,(Builtin.copy_ #[22,22] ty #[.slice (some ⟨b,off+(i+m)*9,none⟩) (n+m-(i+m)) dc,.slice (some ⟨b,off+i*9,none⟩) (n+m-i) sc]).run Tryz.prog w.drew=.ok (goInt (n-i:Nat)) (w.drew.setCells b (off+(i+m)*9) (cs.drop (i*9))):=fun ty dc sc=>
  run_copy_k 9 w.drew _ _ ty 105 b (off+(i+m)*9) (n+m-(i+m)) dc ⟨b,off+i*9,none⟩ (n+m-i) sc (cs.drop (i*9)) (n-i) t24 hsz (by simp only[Nat.min_def];split<;>omega) (by rw[hdl])
   (fun j v hj=>by rw[Addr.add_lit,Nat.add_assoc];exact hcs (i*9+j) v (by rwa [List.getElem?_drop] at hj))
   (fun j hj=>by rw[Nat.add_assoc];exact hsp _ (by omega)) (fun j hj=>hfz _) (fun v hv=>h1c v (List.mem_of_mem_drop hv))
 obtain⟨W1,hW1⟩:∃W1,W1=w.drew.setCells b (off+(i+m)*9) (cs.drop (i*9)):=⟨_,rfl⟩
 have hsp1:∀k,k<(n+m)*9→(W1.cell? ⟨b,off+k,none⟩).isSome=true:=fun k hk=>by
  rw[hW1]
  exact isSome_setK b _ _ _ (fun j hj=>by rw[Nat.add_assoc];exact hsp _ (by omega)) _ (hsp k hk)
 have hcp2:∀(W:World),(∀x,W.cell? x=W1.cell? x)→(∀x,W.frozen? x=W1.frozen? x)→∀ty dc,(Builtin.copy_ #[22,22] ty #[.slice (some ⟨b,off+i*9,none⟩) (n+m-i) dc,.slice (some ⟨vb,voff,none⟩) m vc]).run Tryz.prog W=.ok (goInt (m:Nat)) (W.setCells b (off+i*9) vs):=fun W hWc hWf ty dc=>
  run_copy_k 9 W _ _ ty 105 b (off+i*9) (n+m-i) dc ⟨vb,voff,none⟩ m vc vs m t24 hsz (by simp only[Nat.min_def];split<;>omega) hvl
   (fun j v hj=>by
    rw[Addr.add_lit,hWc,hW1,World.cell?_setCells_out b _ _ _ _ (fun h _=>absurd h hvb)]
    exact hvs j v hj)
   (fun j hj=>by rw[hWc,Nat.add_assoc];exact hsp1 _ (by omega)) (fun j hj=>by rw[hWf,hW1,World.frozen?_setCells];exact hfz _) h1v
 rw[←hW1] at hcp1
 go_enter Tryz.func220,Tryz.ntmps220
 go_wp2_with (simp only[hov])
 go_region_law_o (refine step_copy_k rfl _ _ 22 22 rfl _ _ (by simp[Act.eval,Act.put]) (by simp[Act.eval,Act.put]) (hcp1 _ _ _) ?_)
 go_wp2_with (at_builtin;refine wpList_copy_k _ rfl _ _ 22 22 rfl _ _ rfl rfl (hcp2 _ (fun _=>rfl) (fun _=>rfl) _ _) ?_)
 go_ret
 first|exact⟨rfl,rfl⟩|exact⟨rfl,by rw[hW1]⟩
set_option maxHeartbeats 4000000 in
set_option maxRecDepth 100000 in
theorem ins220_end (base:Option Addr) (n c m vc:Nat) (vb:Option Addr) (w w':World) (q:Value) (hm:0<m) (hnc:n≤c) (hlim:n+m≤1073741824) (hnil:base=none→n=0)
  (hrun:(Builtin.append_ #[22,22] 22 #[.slice base n c,.slice vb m vc]).run Tryz.prog w=.ok q w') :
  Calls Tryz.prog 220 #[.slice base n c,.int .i64 n,.slice vb m vc] w fun e w1=>e=.returned q∧w1=w':=by
 have t0:=Tryz.underlying0;have t3:=Tryz.underlying3;have t4:=Tryz.underlying4;have t9:=Tryz.underlying105;have t24:=Tryz.underlying22
 have a0:=Tryz.isAgg0;have a3:=Tryz.isAgg3;have a4:=Tryz.isAgg4;have a9:=Tryz.isAgg105;have a24:=Tryz.isAgg22
 have z0:=Tryz.sizeOf0;have z3:=Tryz.sizeOf3;have z4:=Tryz.sizeOf4;have z9:=Tryz.sizeOf105;have z24:=Tryz.sizeOf22
 have v0:=Tryz.zeroValue0;have v3:=Tryz.zeroValue3;have v4:=Tryz.zeroValue4;have v24:=Tryz.zeroValue22
 have u0:=run_underlying t0;have u3:=run_underlying t3;have u4:=run_underlying t4;have u24:=run_underlying t24
 have mixed:Tryz.prog.follows .mixedOrders=true:=by kernel_rfl
 have hz1:¬((m:Int)=0):=by omega
 go_enter Tryz.func220,Tryz.ntmps220
 cases base with
 |none=>
  have h0:=hnil rfl
  subst h0
  go_wp2_with (at_builtin;refine Lib.wpList_append_run _ rfl _ _ _ _ rfl _ _ rfl rfl _ _ hrun ?_)
  all_goals (go_ret;exact⟨rfl,rfl⟩)
 |some a=>
  obtain⟨ab,ao,asp⟩:=a
  go_wp2_with (at_builtin;refine Lib.wpList_append_run _ rfl _ _ _ _ rfl _ _ rfl rfl _ _ hrun ?_)
  all_goals (go_ret;exact⟨rfl,rfl⟩)
set_option maxHeartbeats 4000000 in
set_option maxRecDepth 100000 in
theorem ins220_none (base:Option Addr) (n c i vc:Nat) (vb:Option Addr) (w:World) (hnc:n≤c) (hi:i≤n) (hnil:base=none→n=0) :
  Calls Tryz.prog 220 #[.slice base n c,.int .i64 i,.slice vb 0 vc] w fun e w1=>e=.returned (.slice base n c)∧w1=w:=by
 have t0:=Tryz.underlying0;have t3:=Tryz.underlying3;have t4:=Tryz.underlying4;have t9:=Tryz.underlying105;have t24:=Tryz.underlying22
 have a0:=Tryz.isAgg0;have a3:=Tryz.isAgg3;have a4:=Tryz.isAgg4;have a9:=Tryz.isAgg105;have a24:=Tryz.isAgg22
 have z0:=Tryz.sizeOf0;have z3:=Tryz.sizeOf3;have z4:=Tryz.sizeOf4;have z9:=Tryz.sizeOf105;have z24:=Tryz.sizeOf22
 have v0:=Tryz.zeroValue0;have v3:=Tryz.zeroValue3;have v4:=Tryz.zeroValue4;have v24:=Tryz.zeroValue22
 have u0:=run_underlying t0;have u3:=run_underlying t3;have u4:=run_underlying t4;have u24:=run_underlying t24
 have mixed:Tryz.prog.follows .mixedOrders=true:=by kernel_rfl
 go_enter Tryz.func220,Tryz.ntmps220
 cases base with
 |none=>
  have h0:=hnil rfl
  subst h0
  have hi0:i=0:=by omega
  subst hi0
  go_wp2
  all_goals (go_ret;exact⟨rfl,rfl⟩)
 |some a=>
  obtain⟨ab,ao,asp⟩:=a
  go_wp2
  all_goals (go_ret;exact⟨rfl,rfl⟩)
set_option maxHeartbeats 4000000 in
set_option maxRecDepth 100000 in
theorem ins220_grow (b off n c i vb voff m vc:Nat) (cs vs:List Value) (w:World) (hi:i<n) (hm:0<m) (hnc:n≤c) (hroom:c<n+m) (hlim:n+m≤1073741824)
  (hcl:cs.length=n*9) (hvl:vs.length=m*9) (hbw:b<w.heap.size) (hvw:vb<w.heap.size)
  (hcs:∀j v,cs[j]?=some v→w.cell? ⟨b,off+j,none⟩=some v)
  (hvs:∀j v,vs[j]?=some v→w.cell? ⟨vb,voff+j,none⟩=some v) (h1c:∀v∈cs,v.oneCell'=true) (h1v:∀v∈vs,v.oneCell'=true) :
  Calls Tryz.prog 220 #[.slice (some ⟨b,off,none⟩) n c,.int .i64 i,.slice (some ⟨vb,voff,none⟩) m vc] w fun e w'=>
   ∃(G:Nat) (ROW:Array Value) (d1:Nat),n+m≤G∧(n+m)*9≤ROW.size∧ROW.size=G*9∧(∀(j:Nat) (v:Value),(cs.take (i*9))[j]?=some v→ROW[j]?=some v)∧e=.returned (.slice (some ⟨w.heap.size,0,none⟩) (n+m) G)∧
   w'=((({w with drawn:=d1}:World).alloc (.cells ROW 105)).setCells w.heap.size (i*9) vs).setCells w.heap.size ((i+m)*9) (cs.drop (i*9)):=by
 have t0:=Tryz.underlying0;have t3:=Tryz.underlying3;have t4:=Tryz.underlying4;have t9:=Tryz.underlying105;have t24:=Tryz.underlying22
 have a0:=Tryz.isAgg0;have a3:=Tryz.isAgg3;have a4:=Tryz.isAgg4;have a9:=Tryz.isAgg105;have a24:=Tryz.isAgg22
 have z0:=Tryz.sizeOf0;have z3:=Tryz.sizeOf3;have z4:=Tryz.sizeOf4;have z9:=Tryz.sizeOf105;have z24:=Tryz.sizeOf22
 have v0:=Tryz.zeroValue0;have v3:=Tryz.zeroValue3;have v4:=Tryz.zeroValue4;have v24:=Tryz.zeroValue22
 have u0:=run_underlying t0;have u3:=run_underlying t3;have u4:=run_underlying t4;have u24:=run_underlying t24
 have mixed:Tryz.prog.follows .mixedOrders=true:=by kernel_rfl
 obtain⟨i0,hi0,hz0,hzs,hzb⟩:∃i0,Tryz.prog.info? 105=some i0∧i0.zero=some (Value.agg #[.int .i64 0,.int .i64 0,.int .i64 0,.slice none 0 0,.int .i64 0,.string ⟨#[]⟩,.string ⟨#[]⟩,.slice none 0 0,.slice none 0 0])∧i0.size=9∧i0.bytes=136:=⟨_,rfl,rfl,rfl,rfl⟩
 have hz1:¬((m:Int)=0):=by omega
 have hz2:¬((i:Int)=(n:Int)):=by omega
 have hz3:(c:Int)<(n:Int)+(m:Int):=by omega
 have hsz:(Tryz.prog.info? 105).map (·.size)=some 9:=by rw[hi0];simp[hzs]
 have hkk:(n:Int)+(m:Int)-(i:Int)=((n+m-i:Nat):Int):=by omega
 have hik:i+(n+m-i)=n+m:=by omega
 have hold:(Builtin.firstCells i0.size i (.slice (some ⟨b,off,none⟩) i c)).run Tryz.prog w.drew=.ok (cs.take (i*9)).toArray w.drew:=by
  rw[hzs]
  exact run_firstCells_some w.drew 9 i ⟨b,off,none⟩ i c (cs.take (i*9)) (by rw[List.length_take];omega) (fun j v hj=>by
   rw[Addr.add_lit]
   rw[List.getElem?_take] at hj
   split at hj
   ·exact hcs j v hj
   ·cases hj)
 have hrz:∀ty,(Builtin.append_ #[22,3] ty #[.slice (some ⟨b,off,none⟩) i c,.int .i64 ((n:Int)+(m:Int)-(i:Int))]).run Tryz.prog w=
   .ok (.slice (some ⟨w.heap.size,0,none⟩) (n+m) (grownCap w (n+m) c 105)) (w.drew.alloc (.cells ((cs.take (i*9)).toArray++Builtin.zeroCells (Value.agg #[.int .i64 0,.int .i64 0,.int .i64 0,.slice none 0 0,.int .i64 0,.string ⟨#[]⟩,.string ⟨#[]⟩,.slice none 0 0,.slice none 0 0]).cells (n+m-i)++Builtin.zeroCells (Value.agg #[.int .i64 0,.int .i64 0,.int .i64 0,.slice none 0 0,.int .i64 0,.string ⟨#[]⟩,.string ⟨#[]⟩,.slice none 0 0,.slice none 0 0]).cells (grownCap w (n+m) c 105-(n+m))) 105)):=fun ty=>by
  have h:=Lib.run_append_grow_zeros w 22 3 ty 105 i0 _ .i64 .i64 t24 t3 hi0 hz0 (some ⟨b,off,none⟩) i c (cs.take (i*9)) hold (n+m-i) (by omega) (by omega) (by omega) (by omega) (by rw[hzb];omega) (by rw[hzb,hik];exact growslice_fits hroom (by omega))
  rw[hik] at h
  rw[hkk]
  exact h
 obtain⟨G,hG⟩:∃G,G=grownCap w (n+m) c 105:=⟨_,rfl⟩
 obtain⟨ROW,hROW⟩:∃ROW:Array Value,ROW=(cs.take (i*9)).toArray++Builtin.zeroCells (Value.agg #[.int .i64 0,.int .i64 0,.int .i64 0,.slice none 0 0,.int .i64 0,.string ⟨#[]⟩,.string ⟨#[]⟩,.slice none 0 0,.slice none 0 0]).cells (n+m-i)++Builtin.zeroCells (Value.agg #[.int .i64 0,.int .i64 0,.int .i64 0,.slice none 0 0,.int .i64 0,.string ⟨#[]⟩,.string ⟨#[]⟩,.slice none 0 0,.slice none 0 0]).cells (G-(n+m)):=⟨_,rfl⟩
 rw[←hG] at hrz
 rw[←hROW] at hrz
 have hGn:n+m≤G:=by rw[hG];exact grownCap_ge w _ _ _
 have hzc:∀k,(Builtin.zeroCells (Value.agg #[.int .i64 0,.int .i64 0,.int .i64 0,.slice none 0 0,.int .i64 0,.string ⟨#[]⟩,.string ⟨#[]⟩,.slice none 0 0,.slice none 0 0]).cells k).size=k*9:=fun k=>by
  simp[Builtin.zeroCells,Value.cells]
 have hRs:ROW.size=G*9:=by
  rw[hROW,Array.size_append,Array.size_append,hzc,hzc,List.size_toArray,List.length_take]
  omega
 have hRl:(n+m)*9≤ROW.size:=by rw[hRs];omega
 have hRt:∀j v,(cs.take (i*9))[j]?=some v→ROW[j]?=some v:=fun j v hj=>by
  have hjl:j<(cs.take (i*9)).length:=by
   rcases Nat.lt_or_ge j (cs.take (i*9)).length with h|h
   ·exact h
   ·rw[List.getElem?_eq_none h] at hj;simp at hj
  rw[hROW,Array.append_assoc,Array.getElem?_append_left (by simpa using hjl)]
  simpa using hj
 obtain⟨W1,hW1⟩:∃W1,W1=w.drew.alloc (.cells ROW 105):=⟨_,rfl⟩
 rw[←hW1] at hrz
 have hN:∀j,j<(n+m)*9→(W1.cell? ⟨w.heap.size,j,none⟩).isSome=true:=fun j hj=>by
  rw[hW1,World.cell?_alloc_at (w:=w.drew) ROW _ w.heap.size j rfl,Array.getElem?_eq_getElem (by omega)];rfl
 have hNf:∀j,W1.frozen? ⟨w.heap.size,j,none⟩=false:=fun j=>by rw[hW1];exact World.frozen?_alloc_at (w:=w.drew) ROW _ w.heap.size j rfl
 have hOb:∀j v,w.cell? ⟨b,j,none⟩=some v→W1.cell? ⟨b,j,none⟩=some v:=fun j v h=>by rw[hW1,World.cell?_alloc_past (w:=w.drew) _ b j hbw];exact h
 have hOv:∀j v,w.cell? ⟨vb,j,none⟩=some v→W1.cell? ⟨vb,j,none⟩=some v:=fun j v h=>by rw[hW1,World.cell?_alloc_past (w:=w.drew) _ vb j hvw];exact h
 have hcpA:∀(W:World),(∀x,W.cell? x=W1.cell? x)→(∀x,W.frozen? x=W1.frozen? x)→∀ty dc,(Builtin.copy_ #[22,22] ty #[.slice (some ⟨w.heap.size,i*9,none⟩) (n+m-i) dc,.slice (some ⟨vb,voff,none⟩) m vc]).run Tryz.prog W=.ok (goInt (m:Nat)) (W.setCells w.heap.size (i*9) vs):=fun W hWc hWf ty dc=>
  run_copy_k 9 W _ _ ty 105 w.heap.size (i*9) (n+m-i) dc ⟨vb,voff,none⟩ m vc vs m t24 hsz (by simp only[Nat.min_def];split<;>omega) hvl
   (fun j v hj=>by rw[Addr.add_lit,hWc];exact hOv _ v (hvs j v hj))
   (fun j hj=>by rw[hWc];exact hN _ (by omega)) (fun j hj=>by rw[hWf];exact hNf _) h1v
 have hG63:G≤9223372036854775807:=by
  have:=grownCap_le_maxLen w (n+m) c 105 (by unfold maxLen;omega)
  rw[←hG] at this
  unfold maxLen at this
  omega
 have hGi:¬(G=i):=by omega
 have hGim:¬(G=i+m):=by omega
 have hci:¬(c=i):=by omega
 have hbN:b≠w.heap.size:=by omega
 have hdl:(cs.drop (i*9)).length=(n-i)*9:=by rw[List.length_drop,hcl];omega
 have hcpB:∀(W:World),(∀x,W.cell? x=(W1.setCells w.heap.size (i*9) vs).cell? x)→(∀x,W.frozen? x=(W1.setCells w.heap.size (i*9) vs).frozen? x)→∀ty dc sc,(Builtin.copy_ #[22,22] ty #[.slice (some ⟨w.heap.size,(i+m)*9,none⟩) (n+m-(i+m)) dc,.slice (some ⟨b,off+i*9,none⟩) (n-i) sc]).run Tryz.prog W=.ok (goInt (n-i:Nat)) (W.setCells w.heap.size ((i+m)*9) (cs.drop (i*9))):=fun W hWc hWf ty dc sc=>
  run_copy_k 9 W _ _ ty 105 w.heap.size ((i+m)*9) (n+m-(i+m)) dc ⟨b,off+i*9,none⟩ (n-i) sc (cs.drop (i*9)) (n-i) t24 hsz (by simp only[Nat.min_def];split<;>omega) hdl
   (fun j v hj=>by
    rw[Addr.add_lit,hWc,World.cell?_setCells_out _ _ _ _ _ (fun h _=>absurd h hbN),Nat.add_assoc]
    exact hOb _ v (hcs (i*9+j) v (by rwa [List.getElem?_drop] at hj)))
   (fun j hj=>by rw[hWc];exact isSome_setK _ _ _ _ (fun t ht=>hN _ (by omega)) _ (hN _ (by omega)))
   (fun j hj=>by rw[hWf,World.frozen?_setCells];exact hNf _) (fun v hv=>h1c v (List.mem_of_mem_drop hv))
 subst hW1
 have hE1:∀x,((w.alloc (.cells ROW 105)).drew).cell? x=(w.drew.alloc (.cells ROW 105)).cell? x:=fun x=>rfl
 have hE2:∀x,((w.alloc (.cells ROW 105)).drew).frozen? x=(w.drew.alloc (.cells ROW 105)).frozen? x:=fun x=>rfl
 have hF1:∀x,(((w.alloc (.cells ROW 105)).drew.setCells w.heap.size (i*9) vs).drew).cell? x=((w.drew.alloc (.cells ROW 105)).setCells w.heap.size (i*9) vs).cell? x:=fun x=>rfl
 have hF2:∀x,(((w.alloc (.cells ROW 105)).drew.setCells w.heap.size (i*9) vs).drew).frozen? x=((w.drew.alloc (.cells ROW 105)).setCells w.heap.size (i*9) vs).frozen? x:=fun x=>rfl
 have hw1:IntKind.i64.wrap ((i:Int)+(m:Int))=(i:Int)+(m:Int):=by rw[IntKind.wrap_i64];omega
 have hb1:(0:Int)≤(i:Int)+(m:Int):=by omega
 have hin:i≤n:=by omega
 have htn:((i:Int)+(m:Int)).toNat=i+m:=by omega
 have hb3:(i:Int)≤(n:Int):=by omega
 clear hkk hik hold hROW hG
 go_enter Tryz.func220,Tryz.ntmps220
 go_wp2_with (first
  |(at_builtin;refine Lib.wpList_append_run _ rfl _ _ _ _ rfl _ _ rfl rfl _ _ (hrz _) ?_)
  |(at_builtin;refine wpList_copy_k _ rfl _ _ 22 22 rfl _ _ rfl rfl (hcpA _ hE1 hE2 _ _) ?_)
  |(at_builtin;refine wpList_copy_k _ rfl _ _ 22 22 rfl _ _ rfl rfl (hcpB _ (fun _=>rfl) (fun _=>rfl) _ _ _) ?_))
 go_region_law_o (refine step_copy_k rfl _ _ 22 22 rfl (.slice (some ⟨w.heap.size,(i+m)*9,none⟩) (n+m-(i+m)) (G-(i+m))) (.slice (some ⟨b,off+i*9,none⟩) (n-i) (c-i)) (by simp[Act.eval,Act.put]) (by simp[Act.eval,Act.put]) (hcpB _ hF1 hF2 3 (G-(i+m)) (c-i)) ?_)
 go_wp2
 go_ret
 exact⟨G,ROW,w.drew.drew.drawn,hGn,hRl,hRs,hRt,rfl,by first|rfl|(rw[drew_setK];rfl)|(simp only[drew_setK];rfl)⟩
theorem insC220:InsC Tryz.prog 220 9 22 105 where
 ent:=⟨Tryz.f220,Tryz.func220,by kernel_rfl,by kernel_rfl⟩
 hS:=Tryz.underlying22
 hz:=by kernel_rfl
 pos:=by decide
 info:=⟨_,(Value.agg #[.int .i64 0,.int .i64 0,.int .i64 0,.slice none 0 0,.int .i64 0,.string ⟨#[]⟩,.string ⟨#[]⟩,.slice none 0 0,.slice none 0 0]),rfl,by decide,rfl,rfl⟩
 nothing:=fun base n c i vc vb w h1 h2 h3=>ins220_none base n c i vc vb w h1 h2 h3
 end_:=fun base n c m vc vb w w' q h1 h2 h3 h4 h5=>ins220_end base n c m vc vb w w' q h1 h2 h3 h4 h5
 shift:=fun b off n c i vb voff m vc cs vs w h1 h2 h3 h4 h5 h6 h7 h8 h9 h10 h11 h12 h13 tA tB kA kB h14 h15 h16=>ins220_shift b off n c i vb voff m vc cs vs w h1 h2 h3 h4 h5 h6 h7 h8 h9 h10 h11 h12 h13 tA tB kA kB h14 h15 h16
 grow:=fun b off n c i vb voff m vc cs vs w h1 h2 h3 h4 h5 h6 h7 h8 h9 h10 h11 h12 h13=>ins220_grow b off n c i vb voff m vc cs vs w h1 h2 h3 h4 h5 h6 h7 h8 h9 h10 h11 h12 h13
set_option maxHeartbeats 4000000 in
set_option maxRecDepth 100000 in
theorem ins284_shift (b off n c i vb voff m vc:Nat) (cs vs:List Value) (w:World) (hi:i<n) (hm:0<m) (hroom:n+m≤c) (hlim:n+m≤1073741824) (hvb:vb≠b)
  (hcl:cs.length=n*17) (hvl:vs.length=m*17)
  (hcs:∀j v,cs[j]?=some v→w.cell? ⟨b,off+j,none⟩=some v) (hsp:∀j,j<(n+m)*17→(w.cell? ⟨b,off+j,none⟩).isSome=true) (hfz:∀j,w.frozen? ⟨b,j,none⟩=false)
  (hvs:∀j v,vs[j]?=some v→w.cell? ⟨vb,voff+j,none⟩=some v) (h1c:∀v∈cs,v.oneCell'=true) (h1v:∀v∈vs,v.oneCell'=true)
  (tA tB:TypeId) (kA kB:Nat) (hsa:w.shape? vb=some (tA,kA)) (hsb:w.shape? b=some (tB,kB)) (hkA:kA≠0) :
  Calls Tryz.prog 284 #[.slice (some ⟨b,off,none⟩) n c,.int .i64 i,.slice (some ⟨vb,voff,none⟩) m vc] w fun e w'=>
   e=.returned (.slice (some ⟨b,off,none⟩) (n+m) c)∧w'=(w.drew.setCells b (off+(i+m)*17) (cs.drop (i*17))).setCells b (off+i*17) vs:=by
 have t0:=Tryz.underlying0;have t3:=Tryz.underlying3;have t4:=Tryz.underlying4;have t9:=Tryz.underlying93;have t24:=Tryz.underlying35
 have a0:=Tryz.isAgg0;have a3:=Tryz.isAgg3;have a4:=Tryz.isAgg4;have a9:=Tryz.isAgg93;have a24:=Tryz.isAgg35
 have z0:=Tryz.sizeOf0;have z3:=Tryz.sizeOf3;have z4:=Tryz.sizeOf4;have z9:=Tryz.sizeOf93;have z24:=Tryz.sizeOf35
 have v0:=Tryz.zeroValue0;have v3:=Tryz.zeroValue3;have v4:=Tryz.zeroValue4;have v24:=Tryz.zeroValue35
 have u0:=run_underlying t0;have u3:=run_underlying t3;have u4:=run_underlying t4;have u24:=run_underlying t24
 have hz1:¬((m:Int)=0):=by omega
 have hz2:¬((i:Int)=(n:Int)):=by omega
 have hsz:(Tryz.prog.info? 93).map (·.size)=some 17:=by kernel_rfl
 have hov:∀lb cb,(callFunc 307 #[.slice (some ⟨vb,voff,none⟩) m vc,.slice (some ⟨b,off+(i+m)*17,none⟩) lb cb]).run Tryz.prog w=.ok (.value (.bool false)) w:=fun lb cb=>by
  rw[run_callFunc_extern Tryz.func307 (by kernel_rfl) (by kernel_rfl) (by kernel_rfl) (e:=Extern.SlicesOverlaps.overlaps #[35,35] #[4]) (by kernel_rfl),
   run_overlaps_k w 35 4 93 t24 17 z9 ⟨vb,voff,none⟩ ⟨b,off+(i+m)*17,none⟩ m vc lb cb hvb tA tB kA kB hsa hsb hkA (hfz _) (hfz _)]
  rfl
 have hdl:(cs.drop (i*17)).length=(n-i)*17:=by rw[List.length_drop,hcl];omega
 have mixed:Tryz.prog.follows .mixedOrders=true:=by kernel_rfl
 have hw1:IntKind.i64.wrap ((i:Int)+(m:Int))=(i:Int)+(m:Int):=by rw[IntKind.wrap_i64];omega
 have hb1:(0:Int)≤(i:Int)+(m:Int):=by omega
 have hin:i≤n:=by omega
 have htn:((i:Int)+(m:Int)).toNat=i+m:=by omega
 have hb2:¬(c=i+m):=by omega
 have hb3:(i:Int)≤(n:Int)+(m:Int):=by omega
 have hb4:¬(c=i):=by omega
 have hcp1:∀ty dc sc,(Builtin.copy_ #[35,35] ty #[.slice (some ⟨b,off+(i+m)*17,none⟩) (n+m-(i+m)) dc,.slice (some ⟨b,off+i*17,none⟩) (n+m-i) sc]).run Tryz.prog w.drew=.ok (goInt (n-i:Nat)) (w.drew.setCells b (off+(i+m)*17) (cs.drop (i*17))):=fun ty dc sc=>
  run_copy_k 17 w.drew _ _ ty 93 b (off+(i+m)*17) (n+m-(i+m)) dc ⟨b,off+i*17,none⟩ (n+m-i) sc (cs.drop (i*17)) (n-i) t24 hsz (by simp only[Nat.min_def];split<;>omega) (by rw[hdl])
   (fun j v hj=>by rw[Addr.add_lit,Nat.add_assoc];exact hcs (i*17+j) v (by rwa [List.getElem?_drop] at hj))
   (fun j hj=>by rw[Nat.add_assoc];exact hsp _ (by omega)) (fun j hj=>hfz _) (fun v hv=>h1c v (List.mem_of_mem_drop hv))
 obtain⟨W1,hW1⟩:∃W1,W1=w.drew.setCells b (off+(i+m)*17) (cs.drop (i*17)):=⟨_,rfl⟩
 have hsp1:∀k,k<(n+m)*17→(W1.cell? ⟨b,off+k,none⟩).isSome=true:=fun k hk=>by
  rw[hW1]
  exact isSome_setK b _ _ _ (fun j hj=>by rw[Nat.add_assoc];exact hsp _ (by omega)) _ (hsp k hk)
 have hcp2:∀(W:World),(∀x,W.cell? x=W1.cell? x)→(∀x,W.frozen? x=W1.frozen? x)→∀ty dc,(Builtin.copy_ #[35,35] ty #[.slice (some ⟨b,off+i*17,none⟩) (n+m-i) dc,.slice (some ⟨vb,voff,none⟩) m vc]).run Tryz.prog W=.ok (goInt (m:Nat)) (W.setCells b (off+i*17) vs):=fun W hWc hWf ty dc=>
  run_copy_k 17 W _ _ ty 93 b (off+i*17) (n+m-i) dc ⟨vb,voff,none⟩ m vc vs m t24 hsz (by simp only[Nat.min_def];split<;>omega) hvl
   (fun j v hj=>by
    rw[Addr.add_lit,hWc,hW1,World.cell?_setCells_out b _ _ _ _ (fun h _=>absurd h hvb)]
    exact hvs j v hj)
   (fun j hj=>by rw[hWc,Nat.add_assoc];exact hsp1 _ (by omega)) (fun j hj=>by rw[hWf,hW1,World.frozen?_setCells];exact hfz _) h1v
 rw[←hW1] at hcp1
 go_enter Tryz.func284,Tryz.ntmps284
 go_wp2_with (simp only[hov])
 go_region_law_o (refine step_copy_k rfl _ _ 35 35 rfl _ _ (by simp[Act.eval,Act.put]) (by simp[Act.eval,Act.put]) (hcp1 _ _ _) ?_)
 go_wp2_with (at_builtin;refine wpList_copy_k _ rfl _ _ 35 35 rfl _ _ rfl rfl (hcp2 _ (fun _=>rfl) (fun _=>rfl) _ _) ?_)
 go_ret
 first|exact⟨rfl,rfl⟩|exact⟨rfl,by rw[hW1]⟩
set_option maxHeartbeats 4000000 in
set_option maxRecDepth 100000 in
theorem ins284_end (base:Option Addr) (n c m vc:Nat) (vb:Option Addr) (w w':World) (q:Value) (hm:0<m) (hnc:n≤c) (hlim:n+m≤1073741824) (hnil:base=none→n=0)
  (hrun:(Builtin.append_ #[35,35] 35 #[.slice base n c,.slice vb m vc]).run Tryz.prog w=.ok q w') :
  Calls Tryz.prog 284 #[.slice base n c,.int .i64 n,.slice vb m vc] w fun e w1=>e=.returned q∧w1=w':=by
 have t0:=Tryz.underlying0;have t3:=Tryz.underlying3;have t4:=Tryz.underlying4;have t9:=Tryz.underlying93;have t24:=Tryz.underlying35
 have a0:=Tryz.isAgg0;have a3:=Tryz.isAgg3;have a4:=Tryz.isAgg4;have a9:=Tryz.isAgg93;have a24:=Tryz.isAgg35
 have z0:=Tryz.sizeOf0;have z3:=Tryz.sizeOf3;have z4:=Tryz.sizeOf4;have z9:=Tryz.sizeOf93;have z24:=Tryz.sizeOf35
 have v0:=Tryz.zeroValue0;have v3:=Tryz.zeroValue3;have v4:=Tryz.zeroValue4;have v24:=Tryz.zeroValue35
 have u0:=run_underlying t0;have u3:=run_underlying t3;have u4:=run_underlying t4;have u24:=run_underlying t24
 have mixed:Tryz.prog.follows .mixedOrders=true:=by kernel_rfl
 have hz1:¬((m:Int)=0):=by omega
 go_enter Tryz.func284,Tryz.ntmps284
 cases base with
 |none=>
  have h0:=hnil rfl
  subst h0
  go_wp2_with (at_builtin;refine Lib.wpList_append_run _ rfl _ _ _ _ rfl _ _ rfl rfl _ _ hrun ?_)
  all_goals (go_ret;exact⟨rfl,rfl⟩)
 |some a=>
  obtain⟨ab,ao,asp⟩:=a
  go_wp2_with (at_builtin;refine Lib.wpList_append_run _ rfl _ _ _ _ rfl _ _ rfl rfl _ _ hrun ?_)
  all_goals (go_ret;exact⟨rfl,rfl⟩)
set_option maxHeartbeats 4000000 in
set_option maxRecDepth 100000 in
theorem ins284_none (base:Option Addr) (n c i vc:Nat) (vb:Option Addr) (w:World) (hnc:n≤c) (hi:i≤n) (hnil:base=none→n=0) :
  Calls Tryz.prog 284 #[.slice base n c,.int .i64 i,.slice vb 0 vc] w fun e w1=>e=.returned (.slice base n c)∧w1=w:=by
 have t0:=Tryz.underlying0;have t3:=Tryz.underlying3;have t4:=Tryz.underlying4;have t9:=Tryz.underlying93;have t24:=Tryz.underlying35
 have a0:=Tryz.isAgg0;have a3:=Tryz.isAgg3;have a4:=Tryz.isAgg4;have a9:=Tryz.isAgg93;have a24:=Tryz.isAgg35
 have z0:=Tryz.sizeOf0;have z3:=Tryz.sizeOf3;have z4:=Tryz.sizeOf4;have z9:=Tryz.sizeOf93;have z24:=Tryz.sizeOf35
 have v0:=Tryz.zeroValue0;have v3:=Tryz.zeroValue3;have v4:=Tryz.zeroValue4;have v24:=Tryz.zeroValue35
 have u0:=run_underlying t0;have u3:=run_underlying t3;have u4:=run_underlying t4;have u24:=run_underlying t24
 have mixed:Tryz.prog.follows .mixedOrders=true:=by kernel_rfl
 go_enter Tryz.func284,Tryz.ntmps284
 cases base with
 |none=>
  have h0:=hnil rfl
  subst h0
  have hi0:i=0:=by omega
  subst hi0
  go_wp2
  all_goals (go_ret;exact⟨rfl,rfl⟩)
 |some a=>
  obtain⟨ab,ao,asp⟩:=a
  go_wp2
  all_goals (go_ret;exact⟨rfl,rfl⟩)
set_option maxHeartbeats 4000000 in
set_option maxRecDepth 100000 in
theorem ins284_grow (b off n c i vb voff m vc:Nat) (cs vs:List Value) (w:World) (hi:i<n) (hm:0<m) (hnc:n≤c) (hroom:c<n+m) (hlim:n+m≤1073741824)
  (hcl:cs.length=n*17) (hvl:vs.length=m*17) (hbw:b<w.heap.size) (hvw:vb<w.heap.size)
  (hcs:∀j v,cs[j]?=some v→w.cell? ⟨b,off+j,none⟩=some v)
  (hvs:∀j v,vs[j]?=some v→w.cell? ⟨vb,voff+j,none⟩=some v) (h1c:∀v∈cs,v.oneCell'=true) (h1v:∀v∈vs,v.oneCell'=true) :
  Calls Tryz.prog 284 #[.slice (some ⟨b,off,none⟩) n c,.int .i64 i,.slice (some ⟨vb,voff,none⟩) m vc] w fun e w'=>
   ∃(G:Nat) (ROW:Array Value) (d1:Nat),n+m≤G∧(n+m)*17≤ROW.size∧ROW.size=G*17∧(∀(j:Nat) (v:Value),(cs.take (i*17))[j]?=some v→ROW[j]?=some v)∧e=.returned (.slice (some ⟨w.heap.size,0,none⟩) (n+m) G)∧
   w'=((({w with drawn:=d1}:World).alloc (.cells ROW 93)).setCells w.heap.size (i*17) vs).setCells w.heap.size ((i+m)*17) (cs.drop (i*17)):=by
 have t0:=Tryz.underlying0;have t3:=Tryz.underlying3;have t4:=Tryz.underlying4;have t9:=Tryz.underlying93;have t24:=Tryz.underlying35
 have a0:=Tryz.isAgg0;have a3:=Tryz.isAgg3;have a4:=Tryz.isAgg4;have a9:=Tryz.isAgg93;have a24:=Tryz.isAgg35
 have z0:=Tryz.sizeOf0;have z3:=Tryz.sizeOf3;have z4:=Tryz.sizeOf4;have z9:=Tryz.sizeOf93;have z24:=Tryz.sizeOf35
 have v0:=Tryz.zeroValue0;have v3:=Tryz.zeroValue3;have v4:=Tryz.zeroValue4;have v24:=Tryz.zeroValue35
 have u0:=run_underlying t0;have u3:=run_underlying t3;have u4:=run_underlying t4;have u24:=run_underlying t24
 have mixed:Tryz.prog.follows .mixedOrders=true:=by kernel_rfl
 obtain⟨i0,hi0,hz0,hzs,hzb⟩:∃i0,Tryz.prog.info? 93=some i0∧i0.zero=some (Value.agg #[.int .i64 0,.int .i64 0,.string ⟨#[]⟩,.string ⟨#[]⟩,.int .i64 0,.slice none 0 0,.int .i64 0,.int .i64 0,.int .i64 0,.int .i64 0,.int .i64 0,.int .i64 0,.slice none 0 0,.int .i64 0,.int .i64 0,.int .i64 0,.int .i64 0])∧i0.size=17∧i0.bytes=184:=⟨_,rfl,rfl,rfl,rfl⟩
 have hz1:¬((m:Int)=0):=by omega
 have hz2:¬((i:Int)=(n:Int)):=by omega
 have hz3:(c:Int)<(n:Int)+(m:Int):=by omega
 have hsz:(Tryz.prog.info? 93).map (·.size)=some 17:=by rw[hi0];simp[hzs]
 have hkk:(n:Int)+(m:Int)-(i:Int)=((n+m-i:Nat):Int):=by omega
 have hik:i+(n+m-i)=n+m:=by omega
 have hold:(Builtin.firstCells i0.size i (.slice (some ⟨b,off,none⟩) i c)).run Tryz.prog w.drew=.ok (cs.take (i*17)).toArray w.drew:=by
  rw[hzs]
  exact run_firstCells_some w.drew 17 i ⟨b,off,none⟩ i c (cs.take (i*17)) (by rw[List.length_take];omega) (fun j v hj=>by
   rw[Addr.add_lit]
   rw[List.getElem?_take] at hj
   split at hj
   ·exact hcs j v hj
   ·cases hj)
 have hrz:∀ty,(Builtin.append_ #[35,3] ty #[.slice (some ⟨b,off,none⟩) i c,.int .i64 ((n:Int)+(m:Int)-(i:Int))]).run Tryz.prog w=
   .ok (.slice (some ⟨w.heap.size,0,none⟩) (n+m) (grownCap w (n+m) c 93)) (w.drew.alloc (.cells ((cs.take (i*17)).toArray++Builtin.zeroCells (Value.agg #[.int .i64 0,.int .i64 0,.string ⟨#[]⟩,.string ⟨#[]⟩,.int .i64 0,.slice none 0 0,.int .i64 0,.int .i64 0,.int .i64 0,.int .i64 0,.int .i64 0,.int .i64 0,.slice none 0 0,.int .i64 0,.int .i64 0,.int .i64 0,.int .i64 0]).cells (n+m-i)++Builtin.zeroCells (Value.agg #[.int .i64 0,.int .i64 0,.string ⟨#[]⟩,.string ⟨#[]⟩,.int .i64 0,.slice none 0 0,.int .i64 0,.int .i64 0,.int .i64 0,.int .i64 0,.int .i64 0,.int .i64 0,.slice none 0 0,.int .i64 0,.int .i64 0,.int .i64 0,.int .i64 0]).cells (grownCap w (n+m) c 93-(n+m))) 93)):=fun ty=>by
  have h:=Lib.run_append_grow_zeros w 35 3 ty 93 i0 _ .i64 .i64 t24 t3 hi0 hz0 (some ⟨b,off,none⟩) i c (cs.take (i*17)) hold (n+m-i) (by omega) (by omega) (by omega) (by omega) (by rw[hzb];omega) (by rw[hzb,hik];exact growslice_fits hroom (by omega))
  rw[hik] at h
  rw[hkk]
  exact h
 obtain⟨G,hG⟩:∃G,G=grownCap w (n+m) c 93:=⟨_,rfl⟩
 obtain⟨ROW,hROW⟩:∃ROW:Array Value,ROW=(cs.take (i*17)).toArray++Builtin.zeroCells (Value.agg #[.int .i64 0,.int .i64 0,.string ⟨#[]⟩,.string ⟨#[]⟩,.int .i64 0,.slice none 0 0,.int .i64 0,.int .i64 0,.int .i64 0,.int .i64 0,.int .i64 0,.int .i64 0,.slice none 0 0,.int .i64 0,.int .i64 0,.int .i64 0,.int .i64 0]).cells (n+m-i)++Builtin.zeroCells (Value.agg #[.int .i64 0,.int .i64 0,.string ⟨#[]⟩,.string ⟨#[]⟩,.int .i64 0,.slice none 0 0,.int .i64 0,.int .i64 0,.int .i64 0,.int .i64 0,.int .i64 0,.int .i64 0,.slice none 0 0,.int .i64 0,.int .i64 0,.int .i64 0,.int .i64 0]).cells (G-(n+m)):=⟨_,rfl⟩
 rw[←hG] at hrz
 rw[←hROW] at hrz
 have hGn:n+m≤G:=by rw[hG];exact grownCap_ge w _ _ _
 have hzc:∀k,(Builtin.zeroCells (Value.agg #[.int .i64 0,.int .i64 0,.string ⟨#[]⟩,.string ⟨#[]⟩,.int .i64 0,.slice none 0 0,.int .i64 0,.int .i64 0,.int .i64 0,.int .i64 0,.int .i64 0,.int .i64 0,.slice none 0 0,.int .i64 0,.int .i64 0,.int .i64 0,.int .i64 0]).cells k).size=k*17:=fun k=>by
  simp[Builtin.zeroCells,Value.cells]
 have hRs:ROW.size=G*17:=by
  rw[hROW,Array.size_append,Array.size_append,hzc,hzc,List.size_toArray,List.length_take]
  omega
 have hRl:(n+m)*17≤ROW.size:=by rw[hRs];omega
 have hRt:∀j v,(cs.take (i*17))[j]?=some v→ROW[j]?=some v:=fun j v hj=>by
  have hjl:j<(cs.take (i*17)).length:=by
   rcases Nat.lt_or_ge j (cs.take (i*17)).length with h|h
   ·exact h
   ·rw[List.getElem?_eq_none h] at hj;simp at hj
  rw[hROW,Array.append_assoc,Array.getElem?_append_left (by simpa using hjl)]
  simpa using hj
 obtain⟨W1,hW1⟩:∃W1,W1=w.drew.alloc (.cells ROW 93):=⟨_,rfl⟩
 rw[←hW1] at hrz
 have hN:∀j,j<(n+m)*17→(W1.cell? ⟨w.heap.size,j,none⟩).isSome=true:=fun j hj=>by
  rw[hW1,World.cell?_alloc_at (w:=w.drew) ROW _ w.heap.size j rfl,Array.getElem?_eq_getElem (by omega)];rfl
 have hNf:∀j,W1.frozen? ⟨w.heap.size,j,none⟩=false:=fun j=>by rw[hW1];exact World.frozen?_alloc_at (w:=w.drew) ROW _ w.heap.size j rfl
 have hOb:∀j v,w.cell? ⟨b,j,none⟩=some v→W1.cell? ⟨b,j,none⟩=some v:=fun j v h=>by rw[hW1,World.cell?_alloc_past (w:=w.drew) _ b j hbw];exact h
 have hOv:∀j v,w.cell? ⟨vb,j,none⟩=some v→W1.cell? ⟨vb,j,none⟩=some v:=fun j v h=>by rw[hW1,World.cell?_alloc_past (w:=w.drew) _ vb j hvw];exact h
 have hcpA:∀(W:World),(∀x,W.cell? x=W1.cell? x)→(∀x,W.frozen? x=W1.frozen? x)→∀ty dc,(Builtin.copy_ #[35,35] ty #[.slice (some ⟨w.heap.size,i*17,none⟩) (n+m-i) dc,.slice (some ⟨vb,voff,none⟩) m vc]).run Tryz.prog W=.ok (goInt (m:Nat)) (W.setCells w.heap.size (i*17) vs):=fun W hWc hWf ty dc=>
  run_copy_k 17 W _ _ ty 93 w.heap.size (i*17) (n+m-i) dc ⟨vb,voff,none⟩ m vc vs m t24 hsz (by simp only[Nat.min_def];split<;>omega) hvl
   (fun j v hj=>by rw[Addr.add_lit,hWc];exact hOv _ v (hvs j v hj))
   (fun j hj=>by rw[hWc];exact hN _ (by omega)) (fun j hj=>by rw[hWf];exact hNf _) h1v
 have hG63:G≤9223372036854775807:=by
  have:=grownCap_le_maxLen w (n+m) c 93 (by unfold maxLen;omega)
  rw[←hG] at this
  unfold maxLen at this
  omega
 have hGi:¬(G=i):=by omega
 have hGim:¬(G=i+m):=by omega
 have hci:¬(c=i):=by omega
 have hbN:b≠w.heap.size:=by omega
 have hdl:(cs.drop (i*17)).length=(n-i)*17:=by rw[List.length_drop,hcl];omega
 have hcpB:∀(W:World),(∀x,W.cell? x=(W1.setCells w.heap.size (i*17) vs).cell? x)→(∀x,W.frozen? x=(W1.setCells w.heap.size (i*17) vs).frozen? x)→∀ty dc sc,(Builtin.copy_ #[35,35] ty #[.slice (some ⟨w.heap.size,(i+m)*17,none⟩) (n+m-(i+m)) dc,.slice (some ⟨b,off+i*17,none⟩) (n-i) sc]).run Tryz.prog W=.ok (goInt (n-i:Nat)) (W.setCells w.heap.size ((i+m)*17) (cs.drop (i*17))):=fun W hWc hWf ty dc sc=>
  run_copy_k 17 W _ _ ty 93 w.heap.size ((i+m)*17) (n+m-(i+m)) dc ⟨b,off+i*17,none⟩ (n-i) sc (cs.drop (i*17)) (n-i) t24 hsz (by simp only[Nat.min_def];split<;>omega) hdl
   (fun j v hj=>by
    rw[Addr.add_lit,hWc,World.cell?_setCells_out _ _ _ _ _ (fun h _=>absurd h hbN),Nat.add_assoc]
    exact hOb _ v (hcs (i*17+j) v (by rwa [List.getElem?_drop] at hj)))
   (fun j hj=>by rw[hWc];exact isSome_setK _ _ _ _ (fun t ht=>hN _ (by omega)) _ (hN _ (by omega)))
   (fun j hj=>by rw[hWf,World.frozen?_setCells];exact hNf _) (fun v hv=>h1c v (List.mem_of_mem_drop hv))
 subst hW1
 have hE1:∀x,((w.alloc (.cells ROW 93)).drew).cell? x=(w.drew.alloc (.cells ROW 93)).cell? x:=fun x=>rfl
 have hE2:∀x,((w.alloc (.cells ROW 93)).drew).frozen? x=(w.drew.alloc (.cells ROW 93)).frozen? x:=fun x=>rfl
 have hF1:∀x,(((w.alloc (.cells ROW 93)).drew.setCells w.heap.size (i*17) vs).drew).cell? x=((w.drew.alloc (.cells ROW 93)).setCells w.heap.size (i*17) vs).cell? x:=fun x=>rfl
 have hF2:∀x,(((w.alloc (.cells ROW 93)).drew.setCells w.heap.size (i*17) vs).drew).frozen? x=((w.drew.alloc (.cells ROW 93)).setCells w.heap.size (i*17) vs).frozen? x:=fun x=>rfl
 have hw1:IntKind.i64.wrap ((i:Int)+(m:Int))=(i:Int)+(m:Int):=by rw[IntKind.wrap_i64];omega
 have hb1:(0:Int)≤(i:Int)+(m:Int):=by omega
 have hin:i≤n:=by omega
 have htn:((i:Int)+(m:Int)).toNat=i+m:=by omega
 have hb3:(i:Int)≤(n:Int):=by omega
 clear hkk hik hold hROW hG
 go_enter Tryz.func284,Tryz.ntmps284
 go_wp2_with (first
  |(at_builtin;refine Lib.wpList_append_run _ rfl _ _ _ _ rfl _ _ rfl rfl _ _ (hrz _) ?_)
  |(at_builtin;refine wpList_copy_k _ rfl _ _ 35 35 rfl _ _ rfl rfl (hcpA _ hE1 hE2 _ _) ?_)
  |(at_builtin;refine wpList_copy_k _ rfl _ _ 35 35 rfl _ _ rfl rfl (hcpB _ (fun _=>rfl) (fun _=>rfl) _ _ _) ?_))
 go_region_law_o (refine step_copy_k rfl _ _ 35 35 rfl (.slice (some ⟨w.heap.size,(i+m)*17,none⟩) (n+m-(i+m)) (G-(i+m))) (.slice (some ⟨b,off+i*17,none⟩) (n-i) (c-i)) (by simp[Act.eval,Act.put]) (by simp[Act.eval,Act.put]) (hcpB _ hF1 hF2 3 (G-(i+m)) (c-i)) ?_)
 go_wp2
 go_ret
 exact⟨G,ROW,w.drew.drew.drawn,hGn,hRl,hRs,hRt,rfl,by first|rfl|(rw[drew_setK];rfl)|(simp only[drew_setK];rfl)⟩
theorem insC284:InsC Tryz.prog 284 17 35 93 where
 ent:=⟨Tryz.f284,Tryz.func284,by kernel_rfl,by kernel_rfl⟩
 hS:=Tryz.underlying35
 hz:=by kernel_rfl
 pos:=by decide
 info:=⟨_,(Value.agg #[.int .i64 0,.int .i64 0,.string ⟨#[]⟩,.string ⟨#[]⟩,.int .i64 0,.slice none 0 0,.int .i64 0,.int .i64 0,.int .i64 0,.int .i64 0,.int .i64 0,.int .i64 0,.slice none 0 0,.int .i64 0,.int .i64 0,.int .i64 0,.int .i64 0]),rfl,by decide,rfl,rfl⟩
 nothing:=fun base n c i vc vb w h1 h2 h3=>ins284_none base n c i vc vb w h1 h2 h3
 end_:=fun base n c m vc vb w w' q h1 h2 h3 h4 h5=>ins284_end base n c m vc vb w w' q h1 h2 h3 h4 h5
 shift:=fun b off n c i vb voff m vc cs vs w h1 h2 h3 h4 h5 h6 h7 h8 h9 h10 h11 h12 h13 tA tB kA kB h14 h15 h16=>ins284_shift b off n c i vb voff m vc cs vs w h1 h2 h3 h4 h5 h6 h7 h8 h9 h10 h11 h12 h13 tA tB kA kB h14 h15 h16
 grow:=fun b off n c i vb voff m vc cs vs w h1 h2 h3 h4 h5 h6 h7 h8 h9 h10 h11 h12 h13=>ins284_grow b off n c i vb voff m vc cs vs w h1 h2 h3 h4 h5 h6 h7 h8 h9 h10 h11 h12 h13
set_option maxHeartbeats 4000000 in
set_option maxRecDepth 100000 in
theorem ins300_shift (b off n c i vb voff m vc:Nat) (cs vs:List Value) (w:World) (hi:i<n) (hm:0<m) (hroom:n+m≤c) (hlim:n+m≤1073741824) (hvb:vb≠b)
  (hcl:cs.length=n*2) (hvl:vs.length=m*2)
  (hcs:∀j v,cs[j]?=some v→w.cell? ⟨b,off+j,none⟩=some v) (hsp:∀j,j<(n+m)*2→(w.cell? ⟨b,off+j,none⟩).isSome=true) (hfz:∀j,w.frozen? ⟨b,j,none⟩=false)
  (hvs:∀j v,vs[j]?=some v→w.cell? ⟨vb,voff+j,none⟩=some v) (h1c:∀v∈cs,v.oneCell'=true) (h1v:∀v∈vs,v.oneCell'=true)
  (tA tB:TypeId) (kA kB:Nat) (hsa:w.shape? vb=some (tA,kA)) (hsb:w.shape? b=some (tB,kB)) (hkA:kA≠0) :
  Calls Tryz.prog 300 #[.slice (some ⟨b,off,none⟩) n c,.int .i64 i,.slice (some ⟨vb,voff,none⟩) m vc] w fun e w'=>
   e=.returned (.slice (some ⟨b,off,none⟩) (n+m) c)∧w'=(w.drew.setCells b (off+(i+m)*2) (cs.drop (i*2))).setCells b (off+i*2) vs:=by
 have t0:=Tryz.underlying0;have t3:=Tryz.underlying3;have t4:=Tryz.underlying4;have t9:=Tryz.underlying96;have t24:=Tryz.underlying90
 have a0:=Tryz.isAgg0;have a3:=Tryz.isAgg3;have a4:=Tryz.isAgg4;have a9:=Tryz.isAgg96;have a24:=Tryz.isAgg90
 have z0:=Tryz.sizeOf0;have z3:=Tryz.sizeOf3;have z4:=Tryz.sizeOf4;have z9:=Tryz.sizeOf96;have z24:=Tryz.sizeOf90
 have v0:=Tryz.zeroValue0;have v3:=Tryz.zeroValue3;have v4:=Tryz.zeroValue4;have v24:=Tryz.zeroValue90
 have u0:=run_underlying t0;have u3:=run_underlying t3;have u4:=run_underlying t4;have u24:=run_underlying t24
 have hz1:¬((m:Int)=0):=by omega
 have hz2:¬((i:Int)=(n:Int)):=by omega
 have hsz:(Tryz.prog.info? 96).map (·.size)=some 2:=by kernel_rfl
 have hov:∀lb cb,(callFunc 316 #[.slice (some ⟨vb,voff,none⟩) m vc,.slice (some ⟨b,off+(i+m)*2,none⟩) lb cb]).run Tryz.prog w=.ok (.value (.bool false)) w:=fun lb cb=>by
  rw[run_callFunc_extern Tryz.func316 (by kernel_rfl) (by kernel_rfl) (by kernel_rfl) (e:=Extern.SlicesOverlaps.overlaps #[90,90] #[4]) (by kernel_rfl),
   run_overlaps_k w 90 4 96 t24 2 z9 ⟨vb,voff,none⟩ ⟨b,off+(i+m)*2,none⟩ m vc lb cb hvb tA tB kA kB hsa hsb hkA (hfz _) (hfz _)]
  rfl
 have hdl:(cs.drop (i*2)).length=(n-i)*2:=by rw[List.length_drop,hcl];omega
 have mixed:Tryz.prog.follows .mixedOrders=true:=by kernel_rfl
 have hw1:IntKind.i64.wrap ((i:Int)+(m:Int))=(i:Int)+(m:Int):=by rw[IntKind.wrap_i64];omega
 have hb1:(0:Int)≤(i:Int)+(m:Int):=by omega
 have hin:i≤n:=by omega
 have htn:((i:Int)+(m:Int)).toNat=i+m:=by omega
 have hb2:¬(c=i+m):=by omega
 have hb3:(i:Int)≤(n:Int)+(m:Int):=by omega
 have hb4:¬(c=i):=by omega
 have hcp1:∀ty dc sc,(Builtin.copy_ #[90,90] ty #[.slice (some ⟨b,off+(i+m)*2,none⟩) (n+m-(i+m)) dc,.slice (some ⟨b,off+i*2,none⟩) (n+m-i) sc]).run Tryz.prog w.drew=.ok (goInt (n-i:Nat)) (w.drew.setCells b (off+(i+m)*2) (cs.drop (i*2))):=fun ty dc sc=>
  run_copy_k 2 w.drew _ _ ty 96 b (off+(i+m)*2) (n+m-(i+m)) dc ⟨b,off+i*2,none⟩ (n+m-i) sc (cs.drop (i*2)) (n-i) t24 hsz (by simp only[Nat.min_def];split<;>omega) (by rw[hdl])
   (fun j v hj=>by rw[Addr.add_lit,Nat.add_assoc];exact hcs (i*2+j) v (by rwa [List.getElem?_drop] at hj))
   (fun j hj=>by rw[Nat.add_assoc];exact hsp _ (by omega)) (fun j hj=>hfz _) (fun v hv=>h1c v (List.mem_of_mem_drop hv))
 obtain⟨W1,hW1⟩:∃W1,W1=w.drew.setCells b (off+(i+m)*2) (cs.drop (i*2)):=⟨_,rfl⟩
 have hsp1:∀k,k<(n+m)*2→(W1.cell? ⟨b,off+k,none⟩).isSome=true:=fun k hk=>by
  rw[hW1]
  exact isSome_setK b _ _ _ (fun j hj=>by rw[Nat.add_assoc];exact hsp _ (by omega)) _ (hsp k hk)
 have hcp2:∀(W:World),(∀x,W.cell? x=W1.cell? x)→(∀x,W.frozen? x=W1.frozen? x)→∀ty dc,(Builtin.copy_ #[90,90] ty #[.slice (some ⟨b,off+i*2,none⟩) (n+m-i) dc,.slice (some ⟨vb,voff,none⟩) m vc]).run Tryz.prog W=.ok (goInt (m:Nat)) (W.setCells b (off+i*2) vs):=fun W hWc hWf ty dc=>
  run_copy_k 2 W _ _ ty 96 b (off+i*2) (n+m-i) dc ⟨vb,voff,none⟩ m vc vs m t24 hsz (by simp only[Nat.min_def];split<;>omega) hvl
   (fun j v hj=>by
    rw[Addr.add_lit,hWc,hW1,World.cell?_setCells_out b _ _ _ _ (fun h _=>absurd h hvb)]
    exact hvs j v hj)
   (fun j hj=>by rw[hWc,Nat.add_assoc];exact hsp1 _ (by omega)) (fun j hj=>by rw[hWf,hW1,World.frozen?_setCells];exact hfz _) h1v
 rw[←hW1] at hcp1
 go_enter Tryz.func300,Tryz.ntmps300
 go_wp2_with (simp only[hov])
 go_region_law_o (refine step_copy_k rfl _ _ 90 90 rfl _ _ (by simp[Act.eval,Act.put]) (by simp[Act.eval,Act.put]) (hcp1 _ _ _) ?_)
 go_wp2_with (at_builtin;refine wpList_copy_k _ rfl _ _ 90 90 rfl _ _ rfl rfl (hcp2 _ (fun _=>rfl) (fun _=>rfl) _ _) ?_)
 go_ret
 first|exact⟨rfl,rfl⟩|exact⟨rfl,by rw[hW1]⟩
set_option maxHeartbeats 4000000 in
set_option maxRecDepth 100000 in
theorem ins300_end (base:Option Addr) (n c m vc:Nat) (vb:Option Addr) (w w':World) (q:Value) (hm:0<m) (hnc:n≤c) (hlim:n+m≤1073741824) (hnil:base=none→n=0)
  (hrun:(Builtin.append_ #[90,90] 90 #[.slice base n c,.slice vb m vc]).run Tryz.prog w=.ok q w') :
  Calls Tryz.prog 300 #[.slice base n c,.int .i64 n,.slice vb m vc] w fun e w1=>e=.returned q∧w1=w':=by
 have t0:=Tryz.underlying0;have t3:=Tryz.underlying3;have t4:=Tryz.underlying4;have t9:=Tryz.underlying96;have t24:=Tryz.underlying90
 have a0:=Tryz.isAgg0;have a3:=Tryz.isAgg3;have a4:=Tryz.isAgg4;have a9:=Tryz.isAgg96;have a24:=Tryz.isAgg90
 have z0:=Tryz.sizeOf0;have z3:=Tryz.sizeOf3;have z4:=Tryz.sizeOf4;have z9:=Tryz.sizeOf96;have z24:=Tryz.sizeOf90
 have v0:=Tryz.zeroValue0;have v3:=Tryz.zeroValue3;have v4:=Tryz.zeroValue4;have v24:=Tryz.zeroValue90
 have u0:=run_underlying t0;have u3:=run_underlying t3;have u4:=run_underlying t4;have u24:=run_underlying t24
 have mixed:Tryz.prog.follows .mixedOrders=true:=by kernel_rfl
 have hz1:¬((m:Int)=0):=by omega
 go_enter Tryz.func300,Tryz.ntmps300
 cases base with
 |none=>
  have h0:=hnil rfl
  subst h0
  go_wp2_with (at_builtin;refine Lib.wpList_append_run _ rfl _ _ _ _ rfl _ _ rfl rfl _ _ hrun ?_)
  all_goals (go_ret;exact⟨rfl,rfl⟩)
 |some a=>
  obtain⟨ab,ao,asp⟩:=a
  go_wp2_with (at_builtin;refine Lib.wpList_append_run _ rfl _ _ _ _ rfl _ _ rfl rfl _ _ hrun ?_)
  all_goals (go_ret;exact⟨rfl,rfl⟩)
set_option maxHeartbeats 4000000 in
set_option maxRecDepth 100000 in
theorem ins300_none (base:Option Addr) (n c i vc:Nat) (vb:Option Addr) (w:World) (hnc:n≤c) (hi:i≤n) (hnil:base=none→n=0) :
  Calls Tryz.prog 300 #[.slice base n c,.int .i64 i,.slice vb 0 vc] w fun e w1=>e=.returned (.slice base n c)∧w1=w:=by
 have t0:=Tryz.underlying0;have t3:=Tryz.underlying3;have t4:=Tryz.underlying4;have t9:=Tryz.underlying96;have t24:=Tryz.underlying90
 have a0:=Tryz.isAgg0;have a3:=Tryz.isAgg3;have a4:=Tryz.isAgg4;have a9:=Tryz.isAgg96;have a24:=Tryz.isAgg90
 have z0:=Tryz.sizeOf0;have z3:=Tryz.sizeOf3;have z4:=Tryz.sizeOf4;have z9:=Tryz.sizeOf96;have z24:=Tryz.sizeOf90
 have v0:=Tryz.zeroValue0;have v3:=Tryz.zeroValue3;have v4:=Tryz.zeroValue4;have v24:=Tryz.zeroValue90
 have u0:=run_underlying t0;have u3:=run_underlying t3;have u4:=run_underlying t4;have u24:=run_underlying t24
 have mixed:Tryz.prog.follows .mixedOrders=true:=by kernel_rfl
 go_enter Tryz.func300,Tryz.ntmps300
 cases base with
 |none=>
  have h0:=hnil rfl
  subst h0
  have hi0:i=0:=by omega
  subst hi0
  go_wp2
  all_goals (go_ret;exact⟨rfl,rfl⟩)
 |some a=>
  obtain⟨ab,ao,asp⟩:=a
  go_wp2
  all_goals (go_ret;exact⟨rfl,rfl⟩)
set_option maxHeartbeats 4000000 in
set_option maxRecDepth 100000 in
theorem ins300_grow (b off n c i vb voff m vc:Nat) (cs vs:List Value) (w:World) (hi:i<n) (hm:0<m) (hnc:n≤c) (hroom:c<n+m) (hlim:n+m≤1073741824)
  (hcl:cs.length=n*2) (hvl:vs.length=m*2) (hbw:b<w.heap.size) (hvw:vb<w.heap.size)
  (hcs:∀j v,cs[j]?=some v→w.cell? ⟨b,off+j,none⟩=some v)
  (hvs:∀j v,vs[j]?=some v→w.cell? ⟨vb,voff+j,none⟩=some v) (h1c:∀v∈cs,v.oneCell'=true) (h1v:∀v∈vs,v.oneCell'=true) :
  Calls Tryz.prog 300 #[.slice (some ⟨b,off,none⟩) n c,.int .i64 i,.slice (some ⟨vb,voff,none⟩) m vc] w fun e w'=>
   ∃(G:Nat) (ROW:Array Value) (d1:Nat),n+m≤G∧(n+m)*2≤ROW.size∧ROW.size=G*2∧(∀(j:Nat) (v:Value),(cs.take (i*2))[j]?=some v→ROW[j]?=some v)∧e=.returned (.slice (some ⟨w.heap.size,0,none⟩) (n+m) G)∧
   w'=((({w with drawn:=d1}:World).alloc (.cells ROW 96)).setCells w.heap.size (i*2) vs).setCells w.heap.size ((i+m)*2) (cs.drop (i*2)):=by
 have t0:=Tryz.underlying0;have t3:=Tryz.underlying3;have t4:=Tryz.underlying4;have t9:=Tryz.underlying96;have t24:=Tryz.underlying90
 have a0:=Tryz.isAgg0;have a3:=Tryz.isAgg3;have a4:=Tryz.isAgg4;have a9:=Tryz.isAgg96;have a24:=Tryz.isAgg90
 have z0:=Tryz.sizeOf0;have z3:=Tryz.sizeOf3;have z4:=Tryz.sizeOf4;have z9:=Tryz.sizeOf96;have z24:=Tryz.sizeOf90
 have v0:=Tryz.zeroValue0;have v3:=Tryz.zeroValue3;have v4:=Tryz.zeroValue4;have v24:=Tryz.zeroValue90
 have u0:=run_underlying t0;have u3:=run_underlying t3;have u4:=run_underlying t4;have u24:=run_underlying t24
 have mixed:Tryz.prog.follows .mixedOrders=true:=by kernel_rfl
 obtain⟨i0,hi0,hz0,hzs,hzb⟩:∃i0,Tryz.prog.info? 96=some i0∧i0.zero=some (Value.agg #[.string ⟨#[]⟩,.slice none 0 0])∧i0.size=2∧i0.bytes=40:=⟨_,rfl,rfl,rfl,rfl⟩
 have hz1:¬((m:Int)=0):=by omega
 have hz2:¬((i:Int)=(n:Int)):=by omega
 have hz3:(c:Int)<(n:Int)+(m:Int):=by omega
 have hsz:(Tryz.prog.info? 96).map (·.size)=some 2:=by rw[hi0];simp[hzs]
 have hkk:(n:Int)+(m:Int)-(i:Int)=((n+m-i:Nat):Int):=by omega
 have hik:i+(n+m-i)=n+m:=by omega
 have hold:(Builtin.firstCells i0.size i (.slice (some ⟨b,off,none⟩) i c)).run Tryz.prog w.drew=.ok (cs.take (i*2)).toArray w.drew:=by
  rw[hzs]
  exact run_firstCells_some w.drew 2 i ⟨b,off,none⟩ i c (cs.take (i*2)) (by rw[List.length_take];omega) (fun j v hj=>by
   rw[Addr.add_lit]
   rw[List.getElem?_take] at hj
   split at hj
   ·exact hcs j v hj
   ·cases hj)
 have hrz:∀ty,(Builtin.append_ #[90,3] ty #[.slice (some ⟨b,off,none⟩) i c,.int .i64 ((n:Int)+(m:Int)-(i:Int))]).run Tryz.prog w=
   .ok (.slice (some ⟨w.heap.size,0,none⟩) (n+m) (grownCap w (n+m) c 96)) (w.drew.alloc (.cells ((cs.take (i*2)).toArray++Builtin.zeroCells (Value.agg #[.string ⟨#[]⟩,.slice none 0 0]).cells (n+m-i)++Builtin.zeroCells (Value.agg #[.string ⟨#[]⟩,.slice none 0 0]).cells (grownCap w (n+m) c 96-(n+m))) 96)):=fun ty=>by
  have h:=Lib.run_append_grow_zeros w 90 3 ty 96 i0 _ .i64 .i64 t24 t3 hi0 hz0 (some ⟨b,off,none⟩) i c (cs.take (i*2)) hold (n+m-i) (by omega) (by omega) (by omega) (by omega) (by rw[hzb];omega) (by rw[hzb,hik];exact growslice_fits hroom (by omega))
  rw[hik] at h
  rw[hkk]
  exact h
 obtain⟨G,hG⟩:∃G,G=grownCap w (n+m) c 96:=⟨_,rfl⟩
 obtain⟨ROW,hROW⟩:∃ROW:Array Value,ROW=(cs.take (i*2)).toArray++Builtin.zeroCells (Value.agg #[.string ⟨#[]⟩,.slice none 0 0]).cells (n+m-i)++Builtin.zeroCells (Value.agg #[.string ⟨#[]⟩,.slice none 0 0]).cells (G-(n+m)):=⟨_,rfl⟩
 rw[←hG] at hrz
 rw[←hROW] at hrz
 have hGn:n+m≤G:=by rw[hG];exact grownCap_ge w _ _ _
 have hzc:∀k,(Builtin.zeroCells (Value.agg #[.string ⟨#[]⟩,.slice none 0 0]).cells k).size=k*2:=fun k=>by
  simp[Builtin.zeroCells,Value.cells]
 have hRs:ROW.size=G*2:=by
  rw[hROW,Array.size_append,Array.size_append,hzc,hzc,List.size_toArray,List.length_take]
  omega
 have hRl:(n+m)*2≤ROW.size:=by rw[hRs];omega
 have hRt:∀j v,(cs.take (i*2))[j]?=some v→ROW[j]?=some v:=fun j v hj=>by
  have hjl:j<(cs.take (i*2)).length:=by
   rcases Nat.lt_or_ge j (cs.take (i*2)).length with h|h
   ·exact h
   ·rw[List.getElem?_eq_none h] at hj;simp at hj
  rw[hROW,Array.append_assoc,Array.getElem?_append_left (by simpa using hjl)]
  simpa using hj
 obtain⟨W1,hW1⟩:∃W1,W1=w.drew.alloc (.cells ROW 96):=⟨_,rfl⟩
 rw[←hW1] at hrz
 have hN:∀j,j<(n+m)*2→(W1.cell? ⟨w.heap.size,j,none⟩).isSome=true:=fun j hj=>by
  rw[hW1,World.cell?_alloc_at (w:=w.drew) ROW _ w.heap.size j rfl,Array.getElem?_eq_getElem (by omega)];rfl
 have hNf:∀j,W1.frozen? ⟨w.heap.size,j,none⟩=false:=fun j=>by rw[hW1];exact World.frozen?_alloc_at (w:=w.drew) ROW _ w.heap.size j rfl
 have hOb:∀j v,w.cell? ⟨b,j,none⟩=some v→W1.cell? ⟨b,j,none⟩=some v:=fun j v h=>by rw[hW1,World.cell?_alloc_past (w:=w.drew) _ b j hbw];exact h
 have hOv:∀j v,w.cell? ⟨vb,j,none⟩=some v→W1.cell? ⟨vb,j,none⟩=some v:=fun j v h=>by rw[hW1,World.cell?_alloc_past (w:=w.drew) _ vb j hvw];exact h
 have hcpA:∀(W:World),(∀x,W.cell? x=W1.cell? x)→(∀x,W.frozen? x=W1.frozen? x)→∀ty dc,(Builtin.copy_ #[90,90] ty #[.slice (some ⟨w.heap.size,i*2,none⟩) (n+m-i) dc,.slice (some ⟨vb,voff,none⟩) m vc]).run Tryz.prog W=.ok (goInt (m:Nat)) (W.setCells w.heap.size (i*2) vs):=fun W hWc hWf ty dc=>
  run_copy_k 2 W _ _ ty 96 w.heap.size (i*2) (n+m-i) dc ⟨vb,voff,none⟩ m vc vs m t24 hsz (by simp only[Nat.min_def];split<;>omega) hvl
   (fun j v hj=>by rw[Addr.add_lit,hWc];exact hOv _ v (hvs j v hj))
   (fun j hj=>by rw[hWc];exact hN _ (by omega)) (fun j hj=>by rw[hWf];exact hNf _) h1v
 have hG63:G≤9223372036854775807:=by
  have:=grownCap_le_maxLen w (n+m) c 96 (by unfold maxLen;omega)
  rw[←hG] at this
  unfold maxLen at this
  omega
 have hGi:¬(G=i):=by omega
 have hGim:¬(G=i+m):=by omega
 have hci:¬(c=i):=by omega
 have hbN:b≠w.heap.size:=by omega
 have hdl:(cs.drop (i*2)).length=(n-i)*2:=by rw[List.length_drop,hcl];omega
 have hcpB:∀(W:World),(∀x,W.cell? x=(W1.setCells w.heap.size (i*2) vs).cell? x)→(∀x,W.frozen? x=(W1.setCells w.heap.size (i*2) vs).frozen? x)→∀ty dc sc,(Builtin.copy_ #[90,90] ty #[.slice (some ⟨w.heap.size,(i+m)*2,none⟩) (n+m-(i+m)) dc,.slice (some ⟨b,off+i*2,none⟩) (n-i) sc]).run Tryz.prog W=.ok (goInt (n-i:Nat)) (W.setCells w.heap.size ((i+m)*2) (cs.drop (i*2))):=fun W hWc hWf ty dc sc=>
  run_copy_k 2 W _ _ ty 96 w.heap.size ((i+m)*2) (n+m-(i+m)) dc ⟨b,off+i*2,none⟩ (n-i) sc (cs.drop (i*2)) (n-i) t24 hsz (by simp only[Nat.min_def];split<;>omega) hdl
   (fun j v hj=>by
    rw[Addr.add_lit,hWc,World.cell?_setCells_out _ _ _ _ _ (fun h _=>absurd h hbN),Nat.add_assoc]
    exact hOb _ v (hcs (i*2+j) v (by rwa [List.getElem?_drop] at hj)))
   (fun j hj=>by rw[hWc];exact isSome_setK _ _ _ _ (fun t ht=>hN _ (by omega)) _ (hN _ (by omega)))
   (fun j hj=>by rw[hWf,World.frozen?_setCells];exact hNf _) (fun v hv=>h1c v (List.mem_of_mem_drop hv))
 subst hW1
 have hE1:∀x,((w.alloc (.cells ROW 96)).drew).cell? x=(w.drew.alloc (.cells ROW 96)).cell? x:=fun x=>rfl
 have hE2:∀x,((w.alloc (.cells ROW 96)).drew).frozen? x=(w.drew.alloc (.cells ROW 96)).frozen? x:=fun x=>rfl
 have hF1:∀x,(((w.alloc (.cells ROW 96)).drew.setCells w.heap.size (i*2) vs).drew).cell? x=((w.drew.alloc (.cells ROW 96)).setCells w.heap.size (i*2) vs).cell? x:=fun x=>rfl
 have hF2:∀x,(((w.alloc (.cells ROW 96)).drew.setCells w.heap.size (i*2) vs).drew).frozen? x=((w.drew.alloc (.cells ROW 96)).setCells w.heap.size (i*2) vs).frozen? x:=fun x=>rfl
 have hw1:IntKind.i64.wrap ((i:Int)+(m:Int))=(i:Int)+(m:Int):=by rw[IntKind.wrap_i64];omega
 have hb1:(0:Int)≤(i:Int)+(m:Int):=by omega
 have hin:i≤n:=by omega
 have htn:((i:Int)+(m:Int)).toNat=i+m:=by omega
 have hb3:(i:Int)≤(n:Int):=by omega
 clear hkk hik hold hROW hG
 go_enter Tryz.func300,Tryz.ntmps300
 go_wp2_with (first
  |(at_builtin;refine Lib.wpList_append_run _ rfl _ _ _ _ rfl _ _ rfl rfl _ _ (hrz _) ?_)
  |(at_builtin;refine wpList_copy_k _ rfl _ _ 90 90 rfl _ _ rfl rfl (hcpA _ hE1 hE2 _ _) ?_)
  |(at_builtin;refine wpList_copy_k _ rfl _ _ 90 90 rfl _ _ rfl rfl (hcpB _ (fun _=>rfl) (fun _=>rfl) _ _ _) ?_))
 go_region_law_o (refine step_copy_k rfl _ _ 90 90 rfl (.slice (some ⟨w.heap.size,(i+m)*2,none⟩) (n+m-(i+m)) (G-(i+m))) (.slice (some ⟨b,off+i*2,none⟩) (n-i) (c-i)) (by simp[Act.eval,Act.put]) (by simp[Act.eval,Act.put]) (hcpB _ hF1 hF2 3 (G-(i+m)) (c-i)) ?_)
 go_wp2
 go_ret
 exact⟨G,ROW,w.drew.drew.drawn,hGn,hRl,hRs,hRt,rfl,by first|rfl|(rw[drew_setK];rfl)|(simp only[drew_setK];rfl)⟩
theorem insC300:InsC Tryz.prog 300 2 90 96 where
 ent:=⟨Tryz.f300,Tryz.func300,by kernel_rfl,by kernel_rfl⟩
 hS:=Tryz.underlying90
 hz:=by kernel_rfl
 pos:=by decide
 info:=⟨_,(Value.agg #[.string ⟨#[]⟩,.slice none 0 0]),rfl,by decide,rfl,rfl⟩
 nothing:=fun base n c i vc vb w h1 h2 h3=>ins300_none base n c i vc vb w h1 h2 h3
 end_:=fun base n c m vc vb w w' q h1 h2 h3 h4 h5=>ins300_end base n c m vc vb w w' q h1 h2 h3 h4 h5
 shift:=fun b off n c i vb voff m vc cs vs w h1 h2 h3 h4 h5 h6 h7 h8 h9 h10 h11 h12 h13 tA tB kA kB h14 h15 h16=>ins300_shift b off n c i vb voff m vc cs vs w h1 h2 h3 h4 h5 h6 h7 h8 h9 h10 h11 h12 h13 tA tB kA kB h14 h15 h16
 grow:=fun b off n c i vb voff m vc cs vs w h1 h2 h3 h4 h5 h6 h7 h8 h9 h10 h11 h12 h13=>ins300_grow b off n c i vb voff m vc cs vs w h1 h2 h3 h4 h5 h6 h7 h8 h9 h10 h11 h12 h13
set_option maxHeartbeats 4000000 in
set_option maxRecDepth 100000 in
theorem ins302_shift (b off n c i vb voff m vc:Nat) (cs vs:List Value) (w:World) (hi:i<n) (hm:0<m) (hroom:n+m≤c) (hlim:n+m≤1073741824) (hvb:vb≠b)
  (hcl:cs.length=n*11) (hvl:vs.length=m*11)
  (hcs:∀j v,cs[j]?=some v→w.cell? ⟨b,off+j,none⟩=some v) (hsp:∀j,j<(n+m)*11→(w.cell? ⟨b,off+j,none⟩).isSome=true) (hfz:∀j,w.frozen? ⟨b,j,none⟩=false)
  (hvs:∀j v,vs[j]?=some v→w.cell? ⟨vb,voff+j,none⟩=some v) (h1c:∀v∈cs,v.oneCell'=true) (h1v:∀v∈vs,v.oneCell'=true)
  (tA tB:TypeId) (kA kB:Nat) (hsa:w.shape? vb=some (tA,kA)) (hsb:w.shape? b=some (tB,kB)) (hkA:kA≠0) :
  Calls Tryz.prog 302 #[.slice (some ⟨b,off,none⟩) n c,.int .i64 i,.slice (some ⟨vb,voff,none⟩) m vc] w fun e w'=>
   e=.returned (.slice (some ⟨b,off,none⟩) (n+m) c)∧w'=(w.drew.setCells b (off+(i+m)*11) (cs.drop (i*11))).setCells b (off+i*11) vs:=by
 have t0:=Tryz.underlying0;have t3:=Tryz.underlying3;have t4:=Tryz.underlying4;have t9:=Tryz.underlying186;have t24:=Tryz.underlying91
 have a0:=Tryz.isAgg0;have a3:=Tryz.isAgg3;have a4:=Tryz.isAgg4;have a9:=Tryz.isAgg186;have a24:=Tryz.isAgg91
 have z0:=Tryz.sizeOf0;have z3:=Tryz.sizeOf3;have z4:=Tryz.sizeOf4;have z9:=Tryz.sizeOf186;have z24:=Tryz.sizeOf91
 have v0:=Tryz.zeroValue0;have v3:=Tryz.zeroValue3;have v4:=Tryz.zeroValue4;have v24:=Tryz.zeroValue91
 have u0:=run_underlying t0;have u3:=run_underlying t3;have u4:=run_underlying t4;have u24:=run_underlying t24
 have hz1:¬((m:Int)=0):=by omega
 have hz2:¬((i:Int)=(n:Int)):=by omega
 have hsz:(Tryz.prog.info? 186).map (·.size)=some 11:=by kernel_rfl
 have hov:∀lb cb,(callFunc 318 #[.slice (some ⟨vb,voff,none⟩) m vc,.slice (some ⟨b,off+(i+m)*11,none⟩) lb cb]).run Tryz.prog w=.ok (.value (.bool false)) w:=fun lb cb=>by
  rw[run_callFunc_extern Tryz.func318 (by kernel_rfl) (by kernel_rfl) (by kernel_rfl) (e:=Extern.SlicesOverlaps.overlaps #[91,91] #[4]) (by kernel_rfl),
   run_overlaps_k w 91 4 186 t24 11 z9 ⟨vb,voff,none⟩ ⟨b,off+(i+m)*11,none⟩ m vc lb cb hvb tA tB kA kB hsa hsb hkA (hfz _) (hfz _)]
  rfl
 have hdl:(cs.drop (i*11)).length=(n-i)*11:=by rw[List.length_drop,hcl];omega
 have mixed:Tryz.prog.follows .mixedOrders=true:=by kernel_rfl
 have hw1:IntKind.i64.wrap ((i:Int)+(m:Int))=(i:Int)+(m:Int):=by rw[IntKind.wrap_i64];omega
 have hb1:(0:Int)≤(i:Int)+(m:Int):=by omega
 have hin:i≤n:=by omega
 have htn:((i:Int)+(m:Int)).toNat=i+m:=by omega
 have hb2:¬(c=i+m):=by omega
 have hb3:(i:Int)≤(n:Int)+(m:Int):=by omega
 have hb4:¬(c=i):=by omega
 have hcp1:∀ty dc sc,(Builtin.copy_ #[91,91] ty #[.slice (some ⟨b,off+(i+m)*11,none⟩) (n+m-(i+m)) dc,.slice (some ⟨b,off+i*11,none⟩) (n+m-i) sc]).run Tryz.prog w.drew=.ok (goInt (n-i:Nat)) (w.drew.setCells b (off+(i+m)*11) (cs.drop (i*11))):=fun ty dc sc=>
  run_copy_k 11 w.drew _ _ ty 186 b (off+(i+m)*11) (n+m-(i+m)) dc ⟨b,off+i*11,none⟩ (n+m-i) sc (cs.drop (i*11)) (n-i) t24 hsz (by simp only[Nat.min_def];split<;>omega) (by rw[hdl])
   (fun j v hj=>by rw[Addr.add_lit,Nat.add_assoc];exact hcs (i*11+j) v (by rwa [List.getElem?_drop] at hj))
   (fun j hj=>by rw[Nat.add_assoc];exact hsp _ (by omega)) (fun j hj=>hfz _) (fun v hv=>h1c v (List.mem_of_mem_drop hv))
 obtain⟨W1,hW1⟩:∃W1,W1=w.drew.setCells b (off+(i+m)*11) (cs.drop (i*11)):=⟨_,rfl⟩
 have hsp1:∀k,k<(n+m)*11→(W1.cell? ⟨b,off+k,none⟩).isSome=true:=fun k hk=>by
  rw[hW1]
  exact isSome_setK b _ _ _ (fun j hj=>by rw[Nat.add_assoc];exact hsp _ (by omega)) _ (hsp k hk)
 have hcp2:∀(W:World),(∀x,W.cell? x=W1.cell? x)→(∀x,W.frozen? x=W1.frozen? x)→∀ty dc,(Builtin.copy_ #[91,91] ty #[.slice (some ⟨b,off+i*11,none⟩) (n+m-i) dc,.slice (some ⟨vb,voff,none⟩) m vc]).run Tryz.prog W=.ok (goInt (m:Nat)) (W.setCells b (off+i*11) vs):=fun W hWc hWf ty dc=>
  run_copy_k 11 W _ _ ty 186 b (off+i*11) (n+m-i) dc ⟨vb,voff,none⟩ m vc vs m t24 hsz (by simp only[Nat.min_def];split<;>omega) hvl
   (fun j v hj=>by
    rw[Addr.add_lit,hWc,hW1,World.cell?_setCells_out b _ _ _ _ (fun h _=>absurd h hvb)]
    exact hvs j v hj)
   (fun j hj=>by rw[hWc,Nat.add_assoc];exact hsp1 _ (by omega)) (fun j hj=>by rw[hWf,hW1,World.frozen?_setCells];exact hfz _) h1v
 rw[←hW1] at hcp1
 go_enter Tryz.func302,Tryz.ntmps302
 go_wp2_with (simp only[hov])
 go_region_law_o (refine step_copy_k rfl _ _ 91 91 rfl _ _ (by simp[Act.eval,Act.put]) (by simp[Act.eval,Act.put]) (hcp1 _ _ _) ?_)
 go_wp2_with (at_builtin;refine wpList_copy_k _ rfl _ _ 91 91 rfl _ _ rfl rfl (hcp2 _ (fun _=>rfl) (fun _=>rfl) _ _) ?_)
 go_ret
 first|exact⟨rfl,rfl⟩|exact⟨rfl,by rw[hW1]⟩
set_option maxHeartbeats 4000000 in
set_option maxRecDepth 100000 in
theorem ins302_end (base:Option Addr) (n c m vc:Nat) (vb:Option Addr) (w w':World) (q:Value) (hm:0<m) (hnc:n≤c) (hlim:n+m≤1073741824) (hnil:base=none→n=0)
  (hrun:(Builtin.append_ #[91,91] 91 #[.slice base n c,.slice vb m vc]).run Tryz.prog w=.ok q w') :
  Calls Tryz.prog 302 #[.slice base n c,.int .i64 n,.slice vb m vc] w fun e w1=>e=.returned q∧w1=w':=by
 have t0:=Tryz.underlying0;have t3:=Tryz.underlying3;have t4:=Tryz.underlying4;have t9:=Tryz.underlying186;have t24:=Tryz.underlying91
 have a0:=Tryz.isAgg0;have a3:=Tryz.isAgg3;have a4:=Tryz.isAgg4;have a9:=Tryz.isAgg186;have a24:=Tryz.isAgg91
 have z0:=Tryz.sizeOf0;have z3:=Tryz.sizeOf3;have z4:=Tryz.sizeOf4;have z9:=Tryz.sizeOf186;have z24:=Tryz.sizeOf91
 have v0:=Tryz.zeroValue0;have v3:=Tryz.zeroValue3;have v4:=Tryz.zeroValue4;have v24:=Tryz.zeroValue91
 have u0:=run_underlying t0;have u3:=run_underlying t3;have u4:=run_underlying t4;have u24:=run_underlying t24
 have mixed:Tryz.prog.follows .mixedOrders=true:=by kernel_rfl
 have hz1:¬((m:Int)=0):=by omega
 go_enter Tryz.func302,Tryz.ntmps302
 cases base with
 |none=>
  have h0:=hnil rfl
  subst h0
  go_wp2_with (at_builtin;refine Lib.wpList_append_run _ rfl _ _ _ _ rfl _ _ rfl rfl _ _ hrun ?_)
  all_goals (go_ret;exact⟨rfl,rfl⟩)
 |some a=>
  obtain⟨ab,ao,asp⟩:=a
  go_wp2_with (at_builtin;refine Lib.wpList_append_run _ rfl _ _ _ _ rfl _ _ rfl rfl _ _ hrun ?_)
  all_goals (go_ret;exact⟨rfl,rfl⟩)
set_option maxHeartbeats 4000000 in
set_option maxRecDepth 100000 in
theorem ins302_none (base:Option Addr) (n c i vc:Nat) (vb:Option Addr) (w:World) (hnc:n≤c) (hi:i≤n) (hnil:base=none→n=0) :
  Calls Tryz.prog 302 #[.slice base n c,.int .i64 i,.slice vb 0 vc] w fun e w1=>e=.returned (.slice base n c)∧w1=w:=by
 have t0:=Tryz.underlying0;have t3:=Tryz.underlying3;have t4:=Tryz.underlying4;have t9:=Tryz.underlying186;have t24:=Tryz.underlying91
 have a0:=Tryz.isAgg0;have a3:=Tryz.isAgg3;have a4:=Tryz.isAgg4;have a9:=Tryz.isAgg186;have a24:=Tryz.isAgg91
 have z0:=Tryz.sizeOf0;have z3:=Tryz.sizeOf3;have z4:=Tryz.sizeOf4;have z9:=Tryz.sizeOf186;have z24:=Tryz.sizeOf91
 have v0:=Tryz.zeroValue0;have v3:=Tryz.zeroValue3;have v4:=Tryz.zeroValue4;have v24:=Tryz.zeroValue91
 have u0:=run_underlying t0;have u3:=run_underlying t3;have u4:=run_underlying t4;have u24:=run_underlying t24
 have mixed:Tryz.prog.follows .mixedOrders=true:=by kernel_rfl
 go_enter Tryz.func302,Tryz.ntmps302
 cases base with
 |none=>
  have h0:=hnil rfl
  subst h0
  have hi0:i=0:=by omega
  subst hi0
  go_wp2
  all_goals (go_ret;exact⟨rfl,rfl⟩)
 |some a=>
  obtain⟨ab,ao,asp⟩:=a
  go_wp2
  all_goals (go_ret;exact⟨rfl,rfl⟩)
set_option maxHeartbeats 4000000 in
set_option maxRecDepth 100000 in
theorem ins302_grow (b off n c i vb voff m vc:Nat) (cs vs:List Value) (w:World) (hi:i<n) (hm:0<m) (hnc:n≤c) (hroom:c<n+m) (hlim:n+m≤1073741824)
  (hcl:cs.length=n*11) (hvl:vs.length=m*11) (hbw:b<w.heap.size) (hvw:vb<w.heap.size)
  (hcs:∀j v,cs[j]?=some v→w.cell? ⟨b,off+j,none⟩=some v)
  (hvs:∀j v,vs[j]?=some v→w.cell? ⟨vb,voff+j,none⟩=some v) (h1c:∀v∈cs,v.oneCell'=true) (h1v:∀v∈vs,v.oneCell'=true) :
  Calls Tryz.prog 302 #[.slice (some ⟨b,off,none⟩) n c,.int .i64 i,.slice (some ⟨vb,voff,none⟩) m vc] w fun e w'=>
   ∃(G:Nat) (ROW:Array Value) (d1:Nat),n+m≤G∧(n+m)*11≤ROW.size∧ROW.size=G*11∧(∀(j:Nat) (v:Value),(cs.take (i*11))[j]?=some v→ROW[j]?=some v)∧e=.returned (.slice (some ⟨w.heap.size,0,none⟩) (n+m) G)∧
   w'=((({w with drawn:=d1}:World).alloc (.cells ROW 186)).setCells w.heap.size (i*11) vs).setCells w.heap.size ((i+m)*11) (cs.drop (i*11)):=by
 have t0:=Tryz.underlying0;have t3:=Tryz.underlying3;have t4:=Tryz.underlying4;have t9:=Tryz.underlying186;have t24:=Tryz.underlying91
 have a0:=Tryz.isAgg0;have a3:=Tryz.isAgg3;have a4:=Tryz.isAgg4;have a9:=Tryz.isAgg186;have a24:=Tryz.isAgg91
 have z0:=Tryz.sizeOf0;have z3:=Tryz.sizeOf3;have z4:=Tryz.sizeOf4;have z9:=Tryz.sizeOf186;have z24:=Tryz.sizeOf91
 have v0:=Tryz.zeroValue0;have v3:=Tryz.zeroValue3;have v4:=Tryz.zeroValue4;have v24:=Tryz.zeroValue91
 have u0:=run_underlying t0;have u3:=run_underlying t3;have u4:=run_underlying t4;have u24:=run_underlying t24
 have mixed:Tryz.prog.follows .mixedOrders=true:=by kernel_rfl
 obtain⟨i0,hi0,hz0,hzs,hzb⟩:∃i0,Tryz.prog.info? 186=some i0∧i0.zero=some (Value.agg #[.int .i64 0,.int .i64 0,.int .i64 0,.int .i64 0,.int .i64 0,.int .i64 0,.bool false,.string ⟨#[]⟩,.slice none 0 0,.string ⟨#[]⟩,.bool false])∧i0.size=11∧i0.bytes=120:=⟨_,rfl,rfl,rfl,rfl⟩
 have hz1:¬((m:Int)=0):=by omega
 have hz2:¬((i:Int)=(n:Int)):=by omega
 have hz3:(c:Int)<(n:Int)+(m:Int):=by omega
 have hsz:(Tryz.prog.info? 186).map (·.size)=some 11:=by rw[hi0];simp[hzs]
 have hkk:(n:Int)+(m:Int)-(i:Int)=((n+m-i:Nat):Int):=by omega
 have hik:i+(n+m-i)=n+m:=by omega
 have hold:(Builtin.firstCells i0.size i (.slice (some ⟨b,off,none⟩) i c)).run Tryz.prog w.drew=.ok (cs.take (i*11)).toArray w.drew:=by
  rw[hzs]
  exact run_firstCells_some w.drew 11 i ⟨b,off,none⟩ i c (cs.take (i*11)) (by rw[List.length_take];omega) (fun j v hj=>by
   rw[Addr.add_lit]
   rw[List.getElem?_take] at hj
   split at hj
   ·exact hcs j v hj
   ·cases hj)
 have hrz:∀ty,(Builtin.append_ #[91,3] ty #[.slice (some ⟨b,off,none⟩) i c,.int .i64 ((n:Int)+(m:Int)-(i:Int))]).run Tryz.prog w=
   .ok (.slice (some ⟨w.heap.size,0,none⟩) (n+m) (grownCap w (n+m) c 186)) (w.drew.alloc (.cells ((cs.take (i*11)).toArray++Builtin.zeroCells (Value.agg #[.int .i64 0,.int .i64 0,.int .i64 0,.int .i64 0,.int .i64 0,.int .i64 0,.bool false,.string ⟨#[]⟩,.slice none 0 0,.string ⟨#[]⟩,.bool false]).cells (n+m-i)++Builtin.zeroCells (Value.agg #[.int .i64 0,.int .i64 0,.int .i64 0,.int .i64 0,.int .i64 0,.int .i64 0,.bool false,.string ⟨#[]⟩,.slice none 0 0,.string ⟨#[]⟩,.bool false]).cells (grownCap w (n+m) c 186-(n+m))) 186)):=fun ty=>by
  have h:=Lib.run_append_grow_zeros w 91 3 ty 186 i0 _ .i64 .i64 t24 t3 hi0 hz0 (some ⟨b,off,none⟩) i c (cs.take (i*11)) hold (n+m-i) (by omega) (by omega) (by omega) (by omega) (by rw[hzb];omega) (by rw[hzb,hik];exact growslice_fits hroom (by omega))
  rw[hik] at h
  rw[hkk]
  exact h
 obtain⟨G,hG⟩:∃G,G=grownCap w (n+m) c 186:=⟨_,rfl⟩
 obtain⟨ROW,hROW⟩:∃ROW:Array Value,ROW=(cs.take (i*11)).toArray++Builtin.zeroCells (Value.agg #[.int .i64 0,.int .i64 0,.int .i64 0,.int .i64 0,.int .i64 0,.int .i64 0,.bool false,.string ⟨#[]⟩,.slice none 0 0,.string ⟨#[]⟩,.bool false]).cells (n+m-i)++Builtin.zeroCells (Value.agg #[.int .i64 0,.int .i64 0,.int .i64 0,.int .i64 0,.int .i64 0,.int .i64 0,.bool false,.string ⟨#[]⟩,.slice none 0 0,.string ⟨#[]⟩,.bool false]).cells (G-(n+m)):=⟨_,rfl⟩
 rw[←hG] at hrz
 rw[←hROW] at hrz
 have hGn:n+m≤G:=by rw[hG];exact grownCap_ge w _ _ _
 have hzc:∀k,(Builtin.zeroCells (Value.agg #[.int .i64 0,.int .i64 0,.int .i64 0,.int .i64 0,.int .i64 0,.int .i64 0,.bool false,.string ⟨#[]⟩,.slice none 0 0,.string ⟨#[]⟩,.bool false]).cells k).size=k*11:=fun k=>by
  simp[Builtin.zeroCells,Value.cells]
 have hRs:ROW.size=G*11:=by
  rw[hROW,Array.size_append,Array.size_append,hzc,hzc,List.size_toArray,List.length_take]
  omega
 have hRl:(n+m)*11≤ROW.size:=by rw[hRs];omega
 have hRt:∀j v,(cs.take (i*11))[j]?=some v→ROW[j]?=some v:=fun j v hj=>by
  have hjl:j<(cs.take (i*11)).length:=by
   rcases Nat.lt_or_ge j (cs.take (i*11)).length with h|h
   ·exact h
   ·rw[List.getElem?_eq_none h] at hj;simp at hj
  rw[hROW,Array.append_assoc,Array.getElem?_append_left (by simpa using hjl)]
  simpa using hj
 obtain⟨W1,hW1⟩:∃W1,W1=w.drew.alloc (.cells ROW 186):=⟨_,rfl⟩
 rw[←hW1] at hrz
 have hN:∀j,j<(n+m)*11→(W1.cell? ⟨w.heap.size,j,none⟩).isSome=true:=fun j hj=>by
  rw[hW1,World.cell?_alloc_at (w:=w.drew) ROW _ w.heap.size j rfl,Array.getElem?_eq_getElem (by omega)];rfl
 have hNf:∀j,W1.frozen? ⟨w.heap.size,j,none⟩=false:=fun j=>by rw[hW1];exact World.frozen?_alloc_at (w:=w.drew) ROW _ w.heap.size j rfl
 have hOb:∀j v,w.cell? ⟨b,j,none⟩=some v→W1.cell? ⟨b,j,none⟩=some v:=fun j v h=>by rw[hW1,World.cell?_alloc_past (w:=w.drew) _ b j hbw];exact h
 have hOv:∀j v,w.cell? ⟨vb,j,none⟩=some v→W1.cell? ⟨vb,j,none⟩=some v:=fun j v h=>by rw[hW1,World.cell?_alloc_past (w:=w.drew) _ vb j hvw];exact h
 have hcpA:∀(W:World),(∀x,W.cell? x=W1.cell? x)→(∀x,W.frozen? x=W1.frozen? x)→∀ty dc,(Builtin.copy_ #[91,91] ty #[.slice (some ⟨w.heap.size,i*11,none⟩) (n+m-i) dc,.slice (some ⟨vb,voff,none⟩) m vc]).run Tryz.prog W=.ok (goInt (m:Nat)) (W.setCells w.heap.size (i*11) vs):=fun W hWc hWf ty dc=>
  run_copy_k 11 W _ _ ty 186 w.heap.size (i*11) (n+m-i) dc ⟨vb,voff,none⟩ m vc vs m t24 hsz (by simp only[Nat.min_def];split<;>omega) hvl
   (fun j v hj=>by rw[Addr.add_lit,hWc];exact hOv _ v (hvs j v hj))
   (fun j hj=>by rw[hWc];exact hN _ (by omega)) (fun j hj=>by rw[hWf];exact hNf _) h1v
 have hG63:G≤9223372036854775807:=by
  have:=grownCap_le_maxLen w (n+m) c 186 (by unfold maxLen;omega)
  rw[←hG] at this
  unfold maxLen at this
  omega
 have hGi:¬(G=i):=by omega
 have hGim:¬(G=i+m):=by omega
 have hci:¬(c=i):=by omega
 have hbN:b≠w.heap.size:=by omega
 have hdl:(cs.drop (i*11)).length=(n-i)*11:=by rw[List.length_drop,hcl];omega
 have hcpB:∀(W:World),(∀x,W.cell? x=(W1.setCells w.heap.size (i*11) vs).cell? x)→(∀x,W.frozen? x=(W1.setCells w.heap.size (i*11) vs).frozen? x)→∀ty dc sc,(Builtin.copy_ #[91,91] ty #[.slice (some ⟨w.heap.size,(i+m)*11,none⟩) (n+m-(i+m)) dc,.slice (some ⟨b,off+i*11,none⟩) (n-i) sc]).run Tryz.prog W=.ok (goInt (n-i:Nat)) (W.setCells w.heap.size ((i+m)*11) (cs.drop (i*11))):=fun W hWc hWf ty dc sc=>
  run_copy_k 11 W _ _ ty 186 w.heap.size ((i+m)*11) (n+m-(i+m)) dc ⟨b,off+i*11,none⟩ (n-i) sc (cs.drop (i*11)) (n-i) t24 hsz (by simp only[Nat.min_def];split<;>omega) hdl
   (fun j v hj=>by
    rw[Addr.add_lit,hWc,World.cell?_setCells_out _ _ _ _ _ (fun h _=>absurd h hbN),Nat.add_assoc]
    exact hOb _ v (hcs (i*11+j) v (by rwa [List.getElem?_drop] at hj)))
   (fun j hj=>by rw[hWc];exact isSome_setK _ _ _ _ (fun t ht=>hN _ (by omega)) _ (hN _ (by omega)))
   (fun j hj=>by rw[hWf,World.frozen?_setCells];exact hNf _) (fun v hv=>h1c v (List.mem_of_mem_drop hv))
 subst hW1
 have hE1:∀x,((w.alloc (.cells ROW 186)).drew).cell? x=(w.drew.alloc (.cells ROW 186)).cell? x:=fun x=>rfl
 have hE2:∀x,((w.alloc (.cells ROW 186)).drew).frozen? x=(w.drew.alloc (.cells ROW 186)).frozen? x:=fun x=>rfl
 have hF1:∀x,(((w.alloc (.cells ROW 186)).drew.setCells w.heap.size (i*11) vs).drew).cell? x=((w.drew.alloc (.cells ROW 186)).setCells w.heap.size (i*11) vs).cell? x:=fun x=>rfl
 have hF2:∀x,(((w.alloc (.cells ROW 186)).drew.setCells w.heap.size (i*11) vs).drew).frozen? x=((w.drew.alloc (.cells ROW 186)).setCells w.heap.size (i*11) vs).frozen? x:=fun x=>rfl
 have hw1:IntKind.i64.wrap ((i:Int)+(m:Int))=(i:Int)+(m:Int):=by rw[IntKind.wrap_i64];omega
 have hb1:(0:Int)≤(i:Int)+(m:Int):=by omega
 have hin:i≤n:=by omega
 have htn:((i:Int)+(m:Int)).toNat=i+m:=by omega
 have hb3:(i:Int)≤(n:Int):=by omega
 clear hkk hik hold hROW hG
 go_enter Tryz.func302,Tryz.ntmps302
 go_wp2_with (first
  |(at_builtin;refine Lib.wpList_append_run _ rfl _ _ _ _ rfl _ _ rfl rfl _ _ (hrz _) ?_)
  |(at_builtin;refine wpList_copy_k _ rfl _ _ 91 91 rfl _ _ rfl rfl (hcpA _ hE1 hE2 _ _) ?_)
  |(at_builtin;refine wpList_copy_k _ rfl _ _ 91 91 rfl _ _ rfl rfl (hcpB _ (fun _=>rfl) (fun _=>rfl) _ _ _) ?_))
 go_region_law_o (refine step_copy_k rfl _ _ 91 91 rfl (.slice (some ⟨w.heap.size,(i+m)*11,none⟩) (n+m-(i+m)) (G-(i+m))) (.slice (some ⟨b,off+i*11,none⟩) (n-i) (c-i)) (by simp[Act.eval,Act.put]) (by simp[Act.eval,Act.put]) (hcpB _ hF1 hF2 3 (G-(i+m)) (c-i)) ?_)
 go_wp2
 go_ret
 exact⟨G,ROW,w.drew.drew.drawn,hGn,hRl,hRs,hRt,rfl,by first|rfl|(rw[drew_setK];rfl)|(simp only[drew_setK];rfl)⟩
theorem insC302:InsC Tryz.prog 302 11 91 186 where
 ent:=⟨Tryz.f302,Tryz.func302,by kernel_rfl,by kernel_rfl⟩
 hS:=Tryz.underlying91
 hz:=by kernel_rfl
 pos:=by decide
 info:=⟨_,(Value.agg #[.int .i64 0,.int .i64 0,.int .i64 0,.int .i64 0,.int .i64 0,.int .i64 0,.bool false,.string ⟨#[]⟩,.slice none 0 0,.string ⟨#[]⟩,.bool false]),rfl,by decide,rfl,rfl⟩
 nothing:=fun base n c i vc vb w h1 h2 h3=>ins302_none base n c i vc vb w h1 h2 h3
 end_:=fun base n c m vc vb w w' q h1 h2 h3 h4 h5=>ins302_end base n c m vc vb w w' q h1 h2 h3 h4 h5
 shift:=fun b off n c i vb voff m vc cs vs w h1 h2 h3 h4 h5 h6 h7 h8 h9 h10 h11 h12 h13 tA tB kA kB h14 h15 h16=>ins302_shift b off n c i vb voff m vc cs vs w h1 h2 h3 h4 h5 h6 h7 h8 h9 h10 h11 h12 h13 tA tB kA kB h14 h15 h16
 grow:=fun b off n c i vb voff m vc cs vs w h1 h2 h3 h4 h5 h6 h7 h8 h9 h10 h11 h12 h13=>ins302_grow b off n c i vb voff m vc cs vs w h1 h2 h3 h4 h5 h6 h7 h8 h9 h10 h11 h12 h13
end Sg
namespace Sg
open _root_.Go (IntKind BinOp UnOp)
theorem Yg {i n:Nat} (h:decide ((i:Int)<(n:Int))=true):i<n:=by simpa using h
theorem Ym {i n:Nat} (hi:i≤n) (h:decide ((i:Int)<(n:Int))=false):i=n:=by
 have:¬i<n:=by simpa using h
 omega
theorem Yi {i n:Nat} (h:i<n) (hn:n<2 ^ 60):IntKind.i64.wrap ((i:Int)+1)=((i+1:Nat):Int):=JiD (by omega) (by omega)
theorem YbJ {n:Nat} (h:0<n) (hn:n<2 ^ 60):IntKind.i64.wrap ((n:Int)-1)=((n-1:Nat):Int):=by rw[JiD (by omega) (by omega)];omega
theorem YA {α:Type} {l:List α} {i:Nat} {x:α} (h:l[i]?=some x):l.take (i+1)=l.take i++[x]:=by rw[List.take_add_one,h];rfl
theorem Yao {α:Type} {l:List α} {i:Nat} (h:i=l.length):l.take i=l:=by rw[h,List.take_length]
theorem Ydy {n:Nat}:decide ((0:Int)<(n:Int))=!decide (n=0):=by cases n<;>simp
theorem Yax {n:Nat}:decide ((0:Int)<((n+1:Nat):Int))=true:=by simp
theorem led {a b:Nat}:decide ((a:Int)≤(b:Int))=decide (a≤b):=decide_eq_decide.2 (by omega)
theorem ltd {a b:Nat}:decide ((a:Int)<(b:Int))=decide (a<b):=decide_eq_decide.2 (by omega)
end Sg
namespace Sg
open _root_.Go
theorem YdW (n a b c d:Nat):1≤(Lib.decodeN n a b c d).2∧(Lib.decodeN n a b c d).2≤4:=by
 unfold Lib.decodeN
 repeat' split
 all_goals simp
theorem YeY (l:List UInt8):1≤(dN l).2:=(YdW ..).1
def Yb0:Nat→List UInt8→List Int
 |0,_=>[]
 |f+1,l=>if l=[] then [] else ((dN l).1:Int)::Yb0 f (l.drop (dN l).2)
def Yk (l:List UInt8):List Int:=Yb0 l.length l
theorem YaL {l:List UInt8} (h:l≠[]):(l.drop (dN l).2).length<l.length:=by
 have:=YeY l
 have:0<l.length:=List.length_pos_iff.2 h
 rw[List.length_drop];omega
theorem YcA:∀(f:Nat) (l:List UInt8),l.length≤f→Yb0 f l=Yk l
 |0,l,h=>by
  obtain rfl:l=[]:=List.eq_nil_of_length_eq_zero (by omega)
  rfl
 |f+1,l,h=>by
  by_cases hl:l=[]
  ·subst hl;simp[Yb0,Yk]
  ·have hd:=YaL hl
   have h1:=YcA f (l.drop (dN l).2) (by omega)
   obtain⟨n,hn⟩:∃n,l.length=n+1:=⟨l.length-1,by omega⟩
   have h2:Yb0 n (l.drop (dN l).2)=Yk (l.drop (dN l).2):=YcA n _ (by omega)
   have e:Yk l=((dN l).1:Int)::Yb0 n (l.drop (dN l).2):=by
    rw[Yk,hn];simp only[Yb0,hl,if_false]
   rw[e,h2]
   simp only[Yb0,hl,if_false,h1]
 termination_by f=>f
theorem Yaw:Yk []=[]:=rfl
theorem YV {l:List UInt8} (h:l≠[]):Yk l=((dN l).1:Int)::Yk (l.drop (dN l).2):=by
 have hd:=YaL h
 obtain⟨n,hn⟩:∃n,l.length=n+1:=⟨l.length-1,by omega⟩
 rw[Yk,hn]
 simp only[Yb0,h,if_false]
 rw[YcA n _ (by omega)]
theorem YcB:∀(n:Nat) (l:List UInt8),l.length≤n→(Yk l).length≤l.length
 |0,l,h=>by
  obtain rfl:l=[]:=List.eq_nil_of_length_eq_zero (by omega)
  simp[Yaw]
 |n+1,l,h=>by
  by_cases hl:l=[]
  ·subst hl;simp[Yaw]
  ·have hd:=YaL hl
   have:=YcB n (l.drop (dN l).2) (by omega)
   rw[YV hl]
   simp only[List.length_cons];omega
theorem Yb7:∀(f:Nat) (l:List UInt8),l.length≤f→keyAll f l=keyAll l.length l
 |0,l,h=>by
  obtain rfl:l=[]:=List.eq_nil_of_length_eq_zero (by omega)
  rfl
 |f+1,l,h=>by
  by_cases hl:l=[]
  ·subst hl;simp[keyAll]
  ·have hd:=YaL hl
   have h1:=Yb7 f (l.drop (dN l).2) (by omega)
   obtain⟨n,hn⟩:∃n,l.length=n+1:=⟨l.length-1,by omega⟩
   have h2:=Yb7 n (l.drop (dN l).2) (by omega)
   have e:keyAll l.length l=(plainR (dN l).1 (dN l).2&&keyAll n (l.drop (dN l).2)):=by
    rw[hn];simp only[keyAll,hl,if_false]
   rw[e,h2]
   simp only[keyAll,hl,if_false,h1]
 termination_by f=>f
theorem Ydx {f:Nat}:keyAll f []=true:=by cases f<;>simp[keyAll]
theorem Ybt {l:List UInt8} (h:l≠[]):keyAll l.length l=(plainR (dN l).1 (dN l).2&&keyAll (l.drop (dN l).2).length (l.drop (dN l).2)):=by
 have hd:=YaL h
 obtain⟨n,hn⟩:∃n,l.length=n+1:=⟨l.length-1,by omega⟩
 rw[hn]
 simp only[keyAll,h,if_false]
 rw[Yb7 n _ (by omega)]
def YW:Int→List UInt8→Option Int
 |a,[]=>some a
 |a,b::l=>if b.toNat<128∨191<b.toNat then none else YW (64*a+b.toNat-128) l
def cls (a:Int):Nat×Int×Int:=
 if 194≤a∧a<224 then (2,128,a-192) else if 224≤a∧a<240 then (3,2048,a-224) else if 240≤a∧a<245 then (4,65536,a-240) else (0,0,a)
def YaW (l:List UInt8):Int×Int:=
 match l with
 |[]=>(-1,1)
 |b::t=>if b.toNat<128 then ((b.toNat:Int),1) else
  if (cls b.toNat).1=0∨l.length<(cls b.toNat).1 then (-1,1) else
   match YW (cls b.toNat).2.2 (t.take ((cls b.toNat).1-1)) with
   |none=>(-1,1)
   |some v=>if v<(cls b.toNat).2.1∨1114111<v∨(55296≤v∧v<57344) then (-1,1) else (v,(cls b.toNat).1)
theorem Yfl {n a b c d:Nat} (h:(128≤a∧a<194)∨(245≤a∧a<256)):Lib.decodeN n a b c d=(65533,1):=by
 unfold Lib.decodeN
 repeat' split
 all_goals first|(exfalso;omega)|rfl
theorem Yew {n a b c d:Nat} (h:194≤a∧a<224):Lib.decodeN n a b c d=if 1<n∧b / 64=2 then (a % 32*64+b % 64,2) else (65533,1):=by
 unfold Lib.decodeN
 repeat' split
 all_goals first|(exfalso;omega)|rfl
theorem Yex {n a b c d:Nat} (h:224≤a∧a<240):Lib.decodeN n a b c d=if (1<n∧b / 64=2)∧(2<n∧c / 64=2)∧2048≤a % 16*4096+b % 64*64+c % 64∧(a % 16*4096+b % 64*64+c % 64<55296∨57344≤a % 16*4096+b % 64*64+c % 64) then (a % 16*4096+b % 64*64+c % 64,3) else (65533,1):=by
 unfold Lib.decodeN
 repeat' split
 all_goals first|(exfalso;omega)|rfl
theorem Yd6 {n a b c d:Nat} (h:240≤a∧a<245):Lib.decodeN n a b c d=if (1<n∧b / 64=2)∧(2<n∧c / 64=2)∧(3<n∧d / 64=2)∧65536≤a % 8*262144+b % 64*4096+c % 64*64+d % 64∧a % 8*262144+b % 64*4096+c % 64*64+d % 64≤1114111 then (a % 8*262144+b % 64*4096+c % 64*64+d % 64,4) else (65533,1):=by
 unfold Lib.decodeN
 repeat' split
 all_goals first|(exfalso;omega)|rfl
theorem Yfm {n a b c d:Nat} (h:a<128):Lib.decodeN n a b c d=(a,1):=by
 unfold Lib.decodeN;rw[if_pos h]
theorem Ycv {b:UInt8}:(b.toNat<128∨191<b.toNat)↔¬b.toNat / 64=2:=by omega
theorem Ycm {l:List UInt8} (h:l≠[]):YaW l=if dN l=(65533,1) then (-1,1) else (((dN l).1:Int),((dN l).2:Int)):=by
 obtain⟨b0,t,rfl⟩:=List.exists_cons_of_ne_nil h
 have l0:=b0.toNat_lt
 have e0:(b0::t).getD 0 0=b0:=rfl
 have e1:(b0::t).getD 1 0=t.getD 0 0:=rfl
 have e2:(b0::t).getD 2 0=t.getD 1 0:=rfl
 have e3:(b0::t).getD 3 0=t.getD 2 0:=rfl
 simp only[YaW,dN,e0,e1,e2,e3,List.length_cons]
 by_cases c1:b0.toNat<128
 ·rw[if_pos c1,Yfm c1,if_neg (by intro e;simp at e;omega)];rfl
 rw[if_neg c1]
 by_cases c2:194≤b0.toNat∧b0.toNat<224
 ·rw[Yew c2,show cls b0.toNat=(2,128,(b0.toNat:Int)-192) from if_pos (by omega)]
  match t with
  |[]=>simp
  |b1::t=>
   have l1:=b1.toNat_lt
   simp only[List.getD_cons_zero,List.length_cons,List.take_succ_cons,List.take_zero,YW,Ycv]
   by_cases d1:b1.toNat / 64=2
   ·have e:(1<t.length+1+1∧b1.toNat / 64=2):=⟨by omega,d1⟩
    simp only[d1,e]
    simp
    repeat' split
    all_goals first|(exfalso;omega)|(simp;omega)|omega
   ·simp[d1]
 by_cases c3:224≤b0.toNat∧b0.toNat<240
 ·rw[Yex c3,show cls b0.toNat=(3,2048,(b0.toNat:Int)-224) from by rw[cls,if_neg (by omega),if_pos (by omega)]]
  match t with
  |[]=>simp
  |[b1]=>simp
  |b1::b2::t=>
   have l1:=b1.toNat_lt;have l2:=b2.toNat_lt
   simp only[List.getD_cons_zero,List.getD_cons_succ,List.length_cons,List.take_succ_cons,List.take_zero,YW,Ycv]
   by_cases d1:b1.toNat / 64=2
   ·by_cases d2:b2.toNat / 64=2
    ·have hv:64*(64*((b0.toNat:Int)-224)+b1.toNat-128)+b2.toNat-128=((b0.toNat % 16*4096+b1.toNat % 64*64+b2.toNat % 64:Nat):Int):=by omega
     have hn:¬(3=0∨t.length+1+1+1<3):=by omega
     simp only[d1,d2,not_true_eq_false,if_false,hv,hn]
     obtain⟨v,hve,hvb⟩:∃v,b0.toNat % 16*4096+b1.toNat % 64*64+b2.toNat % 64=v∧v<65536:=⟨_,rfl,by omega⟩
     rw[hve]
     by_cases c:2048≤v∧(v<55296∨57344≤v)
     ·have hD:(if (1<t.length+1+1+1∧True)∧(2<t.length+1+1+1∧True)∧2048≤v∧(v<55296∨57344≤v) then (v,3) else ((65533,1):Nat×Nat))=(v,3):=if_pos ⟨⟨by omega,trivial⟩,⟨by omega,trivial⟩,c.1,c.2⟩
      rw[hD,if_neg (by omega),if_neg (by intro e;simp at e)]
     ·have hD:(if (1<t.length+1+1+1∧True)∧(2<t.length+1+1+1∧True)∧2048≤v∧(v<55296∨57344≤v) then (v,3) else ((65533,1):Nat×Nat))=(65533,1):=if_neg (fun e=>c ⟨e.2.2.1,e.2.2.2⟩)
      rw[hD,if_pos (by omega),if_pos rfl]
    ·simp[d1,d2]
   ·simp[d1]
 by_cases c4:240≤b0.toNat∧b0.toNat<245
 ·rw[Yd6 c4,show cls b0.toNat=(4,65536,(b0.toNat:Int)-240) from by rw[cls,if_neg (by omega),if_neg (by omega),if_pos (by omega)]]
  match t with
  |[]=>simp
  |[b1]=>simp
  |[b1,b2]=>simp
  |b1::b2::b3::t=>
   have l1:=b1.toNat_lt;have l2:=b2.toNat_lt;have l3:=b3.toNat_lt
   simp only[List.getD_cons_zero,List.getD_cons_succ,List.length_cons,List.take_succ_cons,List.take_zero,YW,Ycv]
   by_cases d1:b1.toNat / 64=2
   ·by_cases d2:b2.toNat / 64=2
    ·by_cases d3:b3.toNat / 64=2
     ·have hv:64*(64*(64*((b0.toNat:Int)-240)+b1.toNat-128)+b2.toNat-128)+b3.toNat-128=((b0.toNat % 8*262144+b1.toNat % 64*4096+b2.toNat % 64*64+b3.toNat % 64:Nat):Int):=by omega
      have hn:¬(4=0∨t.length+1+1+1+1<4):=by omega
      simp only[d1,d2,d3,not_true_eq_false,if_false,hv,hn]
      obtain⟨v,hve⟩:∃v,b0.toNat % 8*262144+b1.toNat % 64*4096+b2.toNat % 64*64+b3.toNat % 64=v:=⟨_,rfl⟩
      rw[hve]
      by_cases c:65536≤v∧v≤1114111
      ·have hD:(if (1<t.length+1+1+1+1∧True)∧(2<t.length+1+1+1+1∧True)∧(3<t.length+1+1+1+1∧True)∧65536≤v∧v≤1114111 then (v,4) else ((65533,1):Nat×Nat))=(v,4):=if_pos ⟨⟨by omega,trivial⟩,⟨by omega,trivial⟩,⟨by omega,trivial⟩,c.1,c.2⟩
       rw[hD,if_neg (by omega),if_neg (by intro e;simp at e)]
      ·have hD:(if (1<t.length+1+1+1+1∧True)∧(2<t.length+1+1+1+1∧True)∧(3<t.length+1+1+1+1∧True)∧65536≤v∧v≤1114111 then (v,4) else ((65533,1):Nat×Nat))=(65533,1):=if_neg (fun e=>c ⟨e.2.2.2.1,e.2.2.2.2⟩)
       rw[hD,if_pos (by omega),if_pos rfl]
     ·simp[d1,d2,d3]
    ·simp[d1,d2]
   ·simp[d1]
 rw[Yfl (by omega),show cls b0.toNat=(0,0,(b0.toNat:Int)) from by rw[cls,if_neg (by omega),if_neg (by omega),if_neg (by omega)]]
 simp
theorem YbT {l:List UInt8} (h:l≠[]):dN l=(65533,1)∨(∃b0 t,l=b0::t∧b0.toNat<128∧dN l=(b0.toNat,1))∨
  (∃b0 b1 t,l=b0::b1::t∧(194≤b0.toNat∧b0.toNat<224)∧b1.toNat / 64=2∧dN l=(b0.toNat % 32*64+b1.toNat % 64,2))∨
  (∃b0 b1 b2 t,l=b0::b1::b2::t∧(224≤b0.toNat∧b0.toNat<240)∧b1.toNat / 64=2∧b2.toNat / 64=2∧2048≤b0.toNat % 16*4096+b1.toNat % 64*64+b2.toNat % 64∧dN l=(b0.toNat % 16*4096+b1.toNat % 64*64+b2.toNat % 64,3))∨
  (∃b0 b1 b2 b3 t,l=b0::b1::b2::b3::t∧(240≤b0.toNat∧b0.toNat<245)∧b1.toNat / 64=2∧b2.toNat / 64=2∧b3.toNat / 64=2∧65536≤b0.toNat % 8*262144+b1.toNat % 64*4096+b2.toNat % 64*64+b3.toNat % 64∧dN l=(b0.toNat % 8*262144+b1.toNat % 64*4096+b2.toNat % 64*64+b3.toNat % 64,4)):=by
 obtain⟨b0,t,rfl⟩:=List.exists_cons_of_ne_nil h
 have l0:=b0.toNat_lt
 have e0:(b0::t).getD 0 0=b0:=rfl
 have e1:(b0::t).getD 1 0=t.getD 0 0:=rfl
 have e2:(b0::t).getD 2 0=t.getD 1 0:=rfl
 have e3:(b0::t).getD 3 0=t.getD 2 0:=rfl
 by_cases c1:b0.toNat<128
 ·exact .inr (.inl ⟨b0,t,rfl,c1,by rw[dN,e0,Yfm c1]⟩)
 by_cases c2:194≤b0.toNat∧b0.toNat<224
 ·match t with
  |[]=>left;rw[dN,e0,Yew c2];simp
  |b1::t=>
   by_cases d:b1.toNat / 64=2
   ·exact .inr (.inr (.inl ⟨b0,b1,t,rfl,c2,d,by rw[dN,e0,Yew c2,if_pos ⟨by simp,by simpa [e1] using d⟩];rfl⟩))
   ·left;rw[dN,e0,Yew c2,if_neg (fun e=>d (by simpa [e1] using e.2))]
 by_cases c3:224≤b0.toNat∧b0.toNat<240
 ·match t with
  |[]=>left;rw[dN,e0,Yex c3];simp
  |[b1]=>left;rw[dN,e0,Yex c3];simp
  |b1::b2::t=>
   have g1:(b0::b1::b2::t).getD 1 0=b1:=rfl
   have g2:(b0::b1::b2::t).getD 2 0=b2:=rfl
   rw[dN,e0,g1,g2,Yex c3]
   split
   ·rename_i hc
    exact .inr (.inr (.inr (.inl ⟨b0,b1,b2,t,rfl,c3,hc.1.2,hc.2.1.2,hc.2.2.1,rfl⟩)))
   ·exact .inl rfl
 by_cases c4:240≤b0.toNat∧b0.toNat<245
 ·match t with
  |[]=>left;rw[dN,e0,Yd6 c4];simp
  |[b1]=>left;rw[dN,e0,Yd6 c4];simp
  |[b1,b2]=>left;rw[dN,e0,Yd6 c4];simp
  |b1::b2::b3::t=>
   have g1:(b0::b1::b2::b3::t).getD 1 0=b1:=rfl
   have g2:(b0::b1::b2::b3::t).getD 2 0=b2:=rfl
   have g3:(b0::b1::b2::b3::t).getD 3 0=b3:=rfl
   rw[dN,e0,g1,g2,g3,Yd6 c4]
   split
   ·rename_i hc
    exact .inr (.inr (.inr (.inr ⟨b0,b1,b2,b3,t,rfl,c4,hc.1.2,hc.2.1.2,hc.2.2.1.2,hc.2.2.2.1,rfl⟩)))
   ·exact .inl rfl
 ·left;rw[dN,e0,Yfl (by omega)]
def Yo:List Int→List Int→Int
 |[],[]=>0
 |[],_::_=>-1
 |_::_,[]=>1
 |a::l,b::k=>if a<b then -1 else if b<a then 1 else Yo l k
theorem Yda:∀(a b:List Int),Yo a b=-1∨Yo a b=0∨Yo a b=1
 |[],[]=>by simp[Yo]
 |[],_::_=>by simp[Yo]
 |_::_,[]=>by simp[Yo]
 |a::l,b::k=>by
  simp only[Yo]
  split
  ·simp
  ·split
   ·simp
   ·exact Yda l k
theorem YaR:∀(a b:List Int),Yo b a=- Yo a b
 |[],[]=>by simp[Yo]
 |[],_::_=>by simp[Yo]
 |_::_,[]=>by simp[Yo]
 |a::l,b::k=>by
  simp only[Yo]
  have:=YaR l k
  repeat' split
  all_goals omega
theorem Ya0 {a b:Int} {l k:List Int} (h:a<b):Yo (a::l) (b::k)=-1:=by simp[Yo,h]
theorem Ybq {a b:Int} {l k:List Int} (h:b<a):Yo (a::l) (b::k)=1:=by
 have:¬a<b:=by omega
 simp[Yo,h,this]
theorem Ybp {a:Int} {l k:List Int}:Yo (a::l) (a::k)=Yo l k:=by simp[Yo]
theorem YcZ:∀(a b c:List Int),Yo a b≤0→Yo b c≤0→Yo a c≤0∧(Yo a b<0∨Yo b c<0→Yo a c<0)
 |[],[],c,h1,h2=>by
  have:Yo [] []=0:=rfl
  omega
 |[],_::_,[],h1,h2=>by simp[Yo] at h2
 |[],_::_,_::_,h1,h2=>by simp[Yo]
 |_::_,[],_,h1,h2=>by simp[Yo] at h1
 |a::l,b::k,[],h1,h2=>by simp[Yo] at h2
 |a::l,b::k,c::m,h1,h2=>by
  have ih:=YcZ l k m
  rcases Int.lt_trichotomy a b with p|p|p
  ·rw[Ya0 p] at h1 ⊢
   rcases Int.lt_trichotomy b c with q|q|q
   ·rw[Ya0 (show a<c by omega)];omega
   ·rw[Ya0 (show a<c by omega)];omega
   ·rw[Ybq q] at h2;omega
  ·subst p
   rw[Ybp] at h1 ⊢
   rcases Int.lt_trichotomy a c with q|q|q
   ·rw[Ya0 q];omega
   ·subst q
    rw[Ybp] at h2 ⊢
    rw[Ybp]
    exact ih h1 h2
   ·rw[Ybq q] at h2;omega
  ·rw[Ybq p] at h1;omega
end Sg
namespace Sg
open _root_.Go (IntKind BinOp UnOp)
variable {Pg : Nat → Option Fn}
@[go_sem] theorem Yfx {b:UInt8} {t:List UInt8} {k:IntKind}:Jc2 (.str (b::t)) (.int k 0)=some (.int .u8 b.toNat):=rfl
@[go_sem high] theorem Yfw {s:List UInt8} {z:Nat} {k:IntKind} {n:Nat} (h:n≤s.length):slV true z (.str s) (some (.int k (n:Int))) none=some (.str (s.drop n)):=by
 simp[slV,bound,h]
def H191 (Pg:Nat→Option Fn):Prop:=Pg 191=some (.code F191)
theorem K191 (h:H191 Pg) (r n:Int):K' Pg 191 [.int .i32 r,.int .i64 n]=some (.bool (plainR r n)):=by
 refine K'_code h rfl ?_
 simp only[go_sem]
 cases c1:decide (33≤r)<;>cases c2:decide (r<127)<;>cases c3:decide (159<r)<;>cases c4:decide (r=65533)<;>cases c5:decide (n=3) <;>
  simp only[go_sem,plainR,c1,c2,c3,c4,c5]
def H190 (Pg:Nat→Option Fn):Prop:=Pg 190=some (.prim none decQ)
theorem K190 (h:H190 Pg) (s:List UInt8):K' Pg 190 [.str s]=some (.tuple [.int .i32 (JcP s).1,.int .i64 (JcP s).2]):=by
 rw[Jim h];rfl
def H170 (Pg:Nat→Option Fn):Prop:=Pg 170=some (.prim none keyQ)
theorem K170 (h:H170 Pg) (s:List UInt8):K' Pg 170 [.str s]=some (.bool (keyR s)):=by
 rw[Jim h];rfl
def Yc3 (c:Int):Bool:=decide (32<c)&&(!decide (c=127)&&(decide (c<128)||decide (159<c)))
def H189 (Pg:Nat→Option Fn):Prop:=Pg 189=some (.code F189)
theorem K189 (h:H189 Pg) (c:Int):K' Pg 189 [iz c]=some (.bool (Yc3 c)):=by
 refine K'_code h rfl ?_
 simp only[go_sem]
 cases c1:decide (32<c)<;>cases c2:decide (c=127)<;>cases c3:decide (c<128)<;>cases c4:decide (159<c) <;>
  simp only[go_sem,Yc3,c1,c2,c3,c4]
theorem Yee {l:List UInt8} (h:l≠[]):Yc3 (YaW l).1=plainR (dN l).1 (dN l).2:=by
 rw[Ycm h]
 by_cases c:dN l=(65533,1)
 ·rw[if_pos c,c];decide
 ·rw[if_neg c]
  simp only[Yc3,plainR]
  have c65:(dN l).1=65533→(dN l).2=3:=fun e=>by
   rcases YbT h with x|⟨a0,t,rfl,q,x⟩|⟨a0,a1,t,rfl,q,q1,x⟩|⟨a0,a1,a2,t,rfl,q,q1,q2,q3,x⟩|⟨a0,a1,a2,a3,t,rfl,q,q1,q2,q3,q4,x⟩
   ·exact absurd x c
   all_goals (rw[x] at e ⊢;try (simp only at e ⊢;try omega))
  generalize (dN l).1=r at c65 ⊢
  generalize (dN l).2=n at c65 ⊢
  rw[Bool.eq_iff_iff]
  simp only[Bool.and_eq_true,Bool.or_eq_true,decide_eq_true_eq,Bool.not_eq_true',decide_eq_false_iff_not]
  omega
@[go_sem] def eLN (x:Int×Int):V:=.tuple [iz x.1,iz x.2]
def H188 (Pg:Nat→Option Fn):Prop:=Pg 188=some (.code F188)
theorem Ybc:∀{l:List UInt8} {a:Int} {b:UInt8},YW a (l++[b])=(YW a l).bind fun v=>if b.toNat<128∨191<b.toNat then none else some (64*v+b.toNat-128)
 |[],a,b=>by simp[YW]
 |c::l,a,b=>by
  simp only[YW,List.cons_append]
  split
  ·rfl
  ·exact Ybc
theorem Ybb:∀{l k:List UInt8} {a:Int},YW a l=none→YW a (l++k)=none
 |[],k,a,h=>by simp[YW] at h
 |c::l,k,a,h=>by
  simp only[YW,List.cons_append] at h ⊢
  split
  ·rfl
  ·rename_i hc
   rw[if_neg hc] at h
   exact Ybb h
theorem K188 (h:H188 Pg) (s:List UInt8) (hs:s≠[]):K' Pg 188 [.str s]=some (eLN (YaW s)):=by
 refine K'_code h rfl ?_
 obtain⟨b0,t,rfl⟩:=List.exists_cons_of_ne_nil hs
 have l0:=b0.toNat_lt
 have w8:IntKind.i64.wrap (b0.toNat:Int)=b0.toNat:=JiD (by omega) (by omega)
 have w192:IntKind.i64.wrap ((b0.toNat:Int)-192)=b0.toNat-192:=JiD (by omega) (by omega)
 have w224:IntKind.i64.wrap ((b0.toNat:Int)-224)=b0.toNat-224:=JiD (by omega) (by omega)
 have w240:IntKind.i64.wrap ((b0.toNat:Int)-240)=b0.toNat-240:=JiD (by omega) (by omega)
 simp only[go_sem,w8]
 refine JiH (fun c1=>?_) (fun c1=>?_)
 ·have c1:=of_decide_eq_true c1
  have e:YaW (b0::t)=((b0.toNat:Int),(1:Int)):=by simp only[YaW];rw[if_pos (by omega)]
  rw[e]
  simp only[go_sem]
 have c1:=of_decide_eq_false c1
 have eS:YaW (b0::t)=if (cls b0.toNat).1=0∨(b0::t).length<(cls b0.toNat).1 then (-1,1) else
   match YW (cls b0.toNat).2.2 (t.take ((cls b0.toNat).1-1)) with
   |none=>(-1,1)
   |some v=>if v<(cls b0.toNat).2.1∨1114111<v∨(55296≤v∧v<57344) then (-1,1) else (v,((cls b0.toNat).1:Int)):=by
  simp only[YaW];rw[if_neg (by omega)]<;>rfl
 simp only[go_sem]
 cases c2:decide (194≤(b0.toNat:Int)) with
 |false=>
  have hcl:cls b0.toNat=(0,0,(b0.toNat:Int)):=by
   have:=of_decide_eq_false c2
   rw[cls,if_neg (by omega),if_neg (by omega),if_neg (by omega)]
  have d2:decide (224≤(b0.toNat:Int))=false:=decide_eq_false (by have:=of_decide_eq_false c2;omega)
  have d3:decide (240≤(b0.toNat:Int))=false:=decide_eq_false (by have:=of_decide_eq_false c2;omega)
  rw[hcl,if_pos (.inl rfl)] at eS
  rw[eS]
  simp only[go_sem,c2,d2,d3,w8]
 |true=>
 have c2':=of_decide_eq_true c2
 simp only[go_sem,c2,w8]
 refine JiH (fun c3=>?_) (fun c3=>?_)
 ·have c3:=of_decide_eq_true c3
  have hcl:cls b0.toNat=(2,128,(b0.toNat:Int)-192):=if_pos (by omega)
  simp only[go_sem,w192]
  rw[hcl] at eS
  simp only at eS
  refine JiH (fun c5=>?_) (fun c5=>?_)
  ·have c5:=of_decide_eq_true c5
   rw[if_pos (.inr (by simp only[List.length_cons];omega))] at eS
   rw[eS]
   simp only[go_sem]
  have c5:=of_decide_eq_false c5
  have c5:2≤t.length+1:=by omega
  rw[if_neg (by simp only[List.length_cons];omega)] at eS
  simp only[go_sem]
  unfold l188_0
  refine JiG (fun (i:Nat) S=>(1≤i∧i≤2)∧S.ρ 0=.str (b0::t)∧S.ρ 5=iz 2∧S.ρ 6=iz 128∧S.ρ 7=iz i∧∃v,S.ρ 4=iz v∧YW ((b0.toNat:Int)-192) (t.take (i-1))=some v∧0≤v∧v<64 ^ i) (fun i=>2-i) 1 ?_ ?_
  ·simp[go_sem,YW];omega
  ·intro i S ⟨hi,h0,h5,h6,h7,v,h4,hv,v0,v1⟩
   have v2:v<16777216:=by
    have:i=1∨i=2∨i=3∨i=4:=by omega
    rcases this with rfl|rfl|rfl|rfl<;>simp at v1<;>omega
   simp only[go_sem,h0,h4,h5,h6,h7]
   refine JiH (fun h=>?_) (fun h=>?_)
   ·have h:i<2:=by have:=of_decide_eq_true h;omega
    obtain⟨b,hb⟩:∃b,(b0::t)[i]?=some b:=⟨_,List.getElem?_eq_getElem (by simp only[List.length_cons];omega)⟩
    have hb':t[i-1]?=some b:=by
     obtain⟨k,rfl⟩:∃k,i=k+1:=⟨i-1,by omega⟩
     simpa using hb
    have lb:=b.toNat_lt
    have hts:t.take (i+1-1)=t.take (i-1)++[b]:=by
     have:=YA hb'
     rwa [show i-1+1=i+1-1 by omega] at this
    have hsn:=Ybc (l:=t.take (i-1)) (a:=((b0.toNat:Int)-192)) (b:=b)
    rw[hv,Option.bind_some,←hts] at hsn
    have wb:IntKind.i64.wrap (b.toNat:Int)=b.toNat:=JiD (by omega) (by omega)
    have w1:IntKind.i64.wrap (64*v)=64*v:=JiD (by omega) (by omega)
    have w2:IntKind.i64.wrap (64*v+b.toNat)=64*v+b.toNat:=JiD (by omega) (by omega)
    have w3:IntKind.i64.wrap (64*v+b.toNat-128)=64*v+b.toNat-128:=JiD (by omega) (by omega)
    have bad:(b.toNat<128∨191<b.toNat)→YaW (b0::t)=(-1,1):=fun hbad=>by
     rw[if_pos hbad] at hsn
     have:YW ((b0.toNat:Int)-192) (t.take (2-1))=none:=by
      have e:t.take (2-1)=t.take (i+1-1)++(t.take (2-1)).drop (i+1-1):=by
       have:=List.take_append_drop (i+1-1) (t.take (2-1))
       rw[List.take_take,Nat.min_eq_left (by omega)] at this
       exact this.symm
      rw[e]
      exact Ybb hsn
     rw[eS,this]
    simp only[go_sem,h0,h4,h5,h6,h7,hb]
    cases d1:decide ((b.toNat:Int)<128) with
    |true=>
     have:=bad (.inl (by have:=of_decide_eq_true d1;omega))
     rw[this]
     simp only[go_sem,d1,h0,h4,h5,h6,h7,hb]
    |false=>
     have d1':=of_decide_eq_false d1
     simp only[go_sem,d1,h0,h4,h5,h6,h7,hb]
     refine JiH (fun d2=>?_) (fun d2=>?_)
     ·have:=bad (.inr (by have:=of_decide_eq_true d2;omega))
      rw[this]
      simp only[go_sem]
     ·have d2':=of_decide_eq_false d2
      rw[if_neg (by omega)] at hsn
      simp only[go_sem,h0,h4,h5,h6,h7,hb,wb,w1,w2,w3]
      refine⟨i+1,by omega,by omega,by rw[Yi h (by omega)],_,rfl,hsn,by omega,?_⟩
      rw[Int.pow_succ];omega
   ·have h:i=2:=by have:=of_decide_eq_false h;omega
    subst h
    have hv:YW ((b0.toNat:Int)-192) (t.take (2-1))=some v:=hv
    rw[hv] at eS
    simp only at eS
    simp only[go_sem,h0,h4,h5,h6,h7]
    cases f1:decide (v<128) with
    |true=>
     rw[if_pos (.inl (of_decide_eq_true f1))] at eS
     rw[eS]
     simp only[go_sem,f1,h0,h4,h5,h6,h7]
    |false=>
    cases f2:decide (1114111<v) with
    |true=>
     rw[if_pos (.inr (.inl (of_decide_eq_true f2)))] at eS
     rw[eS]
     simp only[go_sem,f1,f2,h0,h4,h5,h6,h7]
    |false=>
    have f1':=of_decide_eq_false f1
    have f2':=of_decide_eq_false f2
    cases f3:decide (55296≤v) with
    |false=>
     rw[if_neg (by have:=of_decide_eq_false f3;omega)] at eS
     rw[eS]
     simp only[go_sem,f1,f2,f3,h0,h4,h5,h6,h7]
    |true=>
    cases f4:decide (v<57344) with
    |true=>
     rw[if_pos (.inr (.inr ⟨of_decide_eq_true f3,of_decide_eq_true f4⟩))] at eS
     rw[eS]
     simp only[go_sem,f1,f2,f3,f4,h0,h4,h5,h6,h7]
    |false=>
     rw[if_neg (by have:=of_decide_eq_false f4;omega)] at eS
     rw[eS]
     simp only[go_sem,f1,f2,f3,f4,h0,h4,h5,h6,h7]
 have c3:=of_decide_eq_false c3
 have d2:decide (224≤(b0.toNat:Int))=true:=decide_eq_true (by omega)
 simp only[go_sem,d2]
 refine JiH (fun c4=>?_) (fun c4=>?_)
 ·have c4:=of_decide_eq_true c4
  have hcl:cls b0.toNat=(3,2048,(b0.toNat:Int)-224):=by rw[cls,if_neg (by omega),if_pos (by omega)]
  simp only[go_sem,w224]
  rw[hcl] at eS
  simp only at eS
  refine JiH (fun c5=>?_) (fun c5=>?_)
  ·have c5:=of_decide_eq_true c5
   rw[if_pos (.inr (by simp only[List.length_cons];omega))] at eS
   rw[eS]
   simp only[go_sem]
  have c5:=of_decide_eq_false c5
  have c5:3≤t.length+1:=by omega
  rw[if_neg (by simp only[List.length_cons];omega)] at eS
  simp only[go_sem]
  unfold l188_0
  refine JiG (fun (i:Nat) S=>(1≤i∧i≤3)∧S.ρ 0=.str (b0::t)∧S.ρ 5=iz 3∧S.ρ 6=iz 2048∧S.ρ 7=iz i∧∃v,S.ρ 4=iz v∧YW ((b0.toNat:Int)-224) (t.take (i-1))=some v∧0≤v∧v<64 ^ i) (fun i=>3-i) 1 ?_ ?_
  ·simp[go_sem,YW];omega
  ·intro i S ⟨hi,h0,h5,h6,h7,v,h4,hv,v0,v1⟩
   have v2:v<16777216:=by
    have:i=1∨i=2∨i=3∨i=4:=by omega
    rcases this with rfl|rfl|rfl|rfl<;>simp at v1<;>omega
   simp only[go_sem,h0,h4,h5,h6,h7]
   refine JiH (fun h=>?_) (fun h=>?_)
   ·have h:i<3:=by have:=of_decide_eq_true h;omega
    obtain⟨b,hb⟩:∃b,(b0::t)[i]?=some b:=⟨_,List.getElem?_eq_getElem (by simp only[List.length_cons];omega)⟩
    have hb':t[i-1]?=some b:=by
     obtain⟨k,rfl⟩:∃k,i=k+1:=⟨i-1,by omega⟩
     simpa using hb
    have lb:=b.toNat_lt
    have hts:t.take (i+1-1)=t.take (i-1)++[b]:=by
     have:=YA hb'
     rwa [show i-1+1=i+1-1 by omega] at this
    have hsn:=Ybc (l:=t.take (i-1)) (a:=((b0.toNat:Int)-224)) (b:=b)
    rw[hv,Option.bind_some,←hts] at hsn
    have wb:IntKind.i64.wrap (b.toNat:Int)=b.toNat:=JiD (by omega) (by omega)
    have w1:IntKind.i64.wrap (64*v)=64*v:=JiD (by omega) (by omega)
    have w2:IntKind.i64.wrap (64*v+b.toNat)=64*v+b.toNat:=JiD (by omega) (by omega)
    have w3:IntKind.i64.wrap (64*v+b.toNat-128)=64*v+b.toNat-128:=JiD (by omega) (by omega)
    have bad:(b.toNat<128∨191<b.toNat)→YaW (b0::t)=(-1,1):=fun hbad=>by
     rw[if_pos hbad] at hsn
     have:YW ((b0.toNat:Int)-224) (t.take (3-1))=none:=by
      have e:t.take (3-1)=t.take (i+1-1)++(t.take (3-1)).drop (i+1-1):=by
       have:=List.take_append_drop (i+1-1) (t.take (3-1))
       rw[List.take_take,Nat.min_eq_left (by omega)] at this
       exact this.symm
      rw[e]
      exact Ybb hsn
     rw[eS,this]
    simp only[go_sem,h0,h4,h5,h6,h7,hb]
    cases d1:decide ((b.toNat:Int)<128) with
    |true=>
     have:=bad (.inl (by have:=of_decide_eq_true d1;omega))
     rw[this]
     simp only[go_sem,d1,h0,h4,h5,h6,h7,hb]
    |false=>
     have d1':=of_decide_eq_false d1
     simp only[go_sem,d1,h0,h4,h5,h6,h7,hb]
     refine JiH (fun d2=>?_) (fun d2=>?_)
     ·have:=bad (.inr (by have:=of_decide_eq_true d2;omega))
      rw[this]
      simp only[go_sem]
     ·have d2':=of_decide_eq_false d2
      rw[if_neg (by omega)] at hsn
      simp only[go_sem,h0,h4,h5,h6,h7,hb,wb,w1,w2,w3]
      refine⟨i+1,by omega,by omega,by rw[Yi h (by omega)],_,rfl,hsn,by omega,?_⟩
      rw[Int.pow_succ];omega
   ·have h:i=3:=by have:=of_decide_eq_false h;omega
    subst h
    have hv:YW ((b0.toNat:Int)-224) (t.take (3-1))=some v:=hv
    rw[hv] at eS
    simp only at eS
    simp only[go_sem,h0,h4,h5,h6,h7]
    cases f1:decide (v<2048) with
    |true=>
     rw[if_pos (.inl (of_decide_eq_true f1))] at eS
     rw[eS]
     simp only[go_sem,f1,h0,h4,h5,h6,h7]
    |false=>
    cases f2:decide (1114111<v) with
    |true=>
     rw[if_pos (.inr (.inl (of_decide_eq_true f2)))] at eS
     rw[eS]
     simp only[go_sem,f1,f2,h0,h4,h5,h6,h7]
    |false=>
    have f1':=of_decide_eq_false f1
    have f2':=of_decide_eq_false f2
    cases f3:decide (55296≤v) with
    |false=>
     rw[if_neg (by have:=of_decide_eq_false f3;omega)] at eS
     rw[eS]
     simp only[go_sem,f1,f2,f3,h0,h4,h5,h6,h7]
    |true=>
    cases f4:decide (v<57344) with
    |true=>
     rw[if_pos (.inr (.inr ⟨of_decide_eq_true f3,of_decide_eq_true f4⟩))] at eS
     rw[eS]
     simp only[go_sem,f1,f2,f3,f4,h0,h4,h5,h6,h7]
    |false=>
     rw[if_neg (by have:=of_decide_eq_false f4;omega)] at eS
     rw[eS]
     simp only[go_sem,f1,f2,f3,f4,h0,h4,h5,h6,h7]
 have c4:=of_decide_eq_false c4
 have d3:decide (240≤(b0.toNat:Int))=true:=decide_eq_true (by omega)
 simp only[go_sem,d3]
 refine JiH (fun c6=>?_) (fun c6=>?_)
 ·have c6:=of_decide_eq_true c6
  have hcl:cls b0.toNat=(4,65536,(b0.toNat:Int)-240):=by rw[cls,if_neg (by omega),if_neg (by omega),if_pos (by omega)]
  simp only[go_sem,w240]
  rw[hcl] at eS
  simp only at eS
  refine JiH (fun c5=>?_) (fun c5=>?_)
  ·have c5:=of_decide_eq_true c5
   rw[if_pos (.inr (by simp only[List.length_cons];omega))] at eS
   rw[eS]
   simp only[go_sem]
  have c5:=of_decide_eq_false c5
  have c5:4≤t.length+1:=by omega
  rw[if_neg (by simp only[List.length_cons];omega)] at eS
  simp only[go_sem]
  unfold l188_0
  refine JiG (fun (i:Nat) S=>(1≤i∧i≤4)∧S.ρ 0=.str (b0::t)∧S.ρ 5=iz 4∧S.ρ 6=iz 65536∧S.ρ 7=iz i∧∃v,S.ρ 4=iz v∧YW ((b0.toNat:Int)-240) (t.take (i-1))=some v∧0≤v∧v<64 ^ i) (fun i=>4-i) 1 ?_ ?_
  ·simp[go_sem,YW];omega
  ·intro i S ⟨hi,h0,h5,h6,h7,v,h4,hv,v0,v1⟩
   have v2:v<16777216:=by
    have:i=1∨i=2∨i=3∨i=4:=by omega
    rcases this with rfl|rfl|rfl|rfl<;>simp at v1<;>omega
   simp only[go_sem,h0,h4,h5,h6,h7]
   refine JiH (fun h=>?_) (fun h=>?_)
   ·have h:i<4:=by have:=of_decide_eq_true h;omega
    obtain⟨b,hb⟩:∃b,(b0::t)[i]?=some b:=⟨_,List.getElem?_eq_getElem (by simp only[List.length_cons];omega)⟩
    have hb':t[i-1]?=some b:=by
     obtain⟨k,rfl⟩:∃k,i=k+1:=⟨i-1,by omega⟩
     simpa using hb
    have lb:=b.toNat_lt
    have hts:t.take (i+1-1)=t.take (i-1)++[b]:=by
     have:=YA hb'
     rwa [show i-1+1=i+1-1 by omega] at this
    have hsn:=Ybc (l:=t.take (i-1)) (a:=((b0.toNat:Int)-240)) (b:=b)
    rw[hv,Option.bind_some,←hts] at hsn
    have wb:IntKind.i64.wrap (b.toNat:Int)=b.toNat:=JiD (by omega) (by omega)
    have w1:IntKind.i64.wrap (64*v)=64*v:=JiD (by omega) (by omega)
    have w2:IntKind.i64.wrap (64*v+b.toNat)=64*v+b.toNat:=JiD (by omega) (by omega)
    have w3:IntKind.i64.wrap (64*v+b.toNat-128)=64*v+b.toNat-128:=JiD (by omega) (by omega)
    have bad:(b.toNat<128∨191<b.toNat)→YaW (b0::t)=(-1,1):=fun hbad=>by
     rw[if_pos hbad] at hsn
     have:YW ((b0.toNat:Int)-240) (t.take (4-1))=none:=by
      have e:t.take (4-1)=t.take (i+1-1)++(t.take (4-1)).drop (i+1-1):=by
       have:=List.take_append_drop (i+1-1) (t.take (4-1))
       rw[List.take_take,Nat.min_eq_left (by omega)] at this
       exact this.symm
      rw[e]
      exact Ybb hsn
     rw[eS,this]
    simp only[go_sem,h0,h4,h5,h6,h7,hb]
    cases d1:decide ((b.toNat:Int)<128) with
    |true=>
     have:=bad (.inl (by have:=of_decide_eq_true d1;omega))
     rw[this]
     simp only[go_sem,d1,h0,h4,h5,h6,h7,hb]
    |false=>
     have d1':=of_decide_eq_false d1
     simp only[go_sem,d1,h0,h4,h5,h6,h7,hb]
     refine JiH (fun d2=>?_) (fun d2=>?_)
     ·have:=bad (.inr (by have:=of_decide_eq_true d2;omega))
      rw[this]
      simp only[go_sem]
     ·have d2':=of_decide_eq_false d2
      rw[if_neg (by omega)] at hsn
      simp only[go_sem,h0,h4,h5,h6,h7,hb,wb,w1,w2,w3]
      refine⟨i+1,by omega,by omega,by rw[Yi h (by omega)],_,rfl,hsn,by omega,?_⟩
      rw[Int.pow_succ];omega
   ·have h:i=4:=by have:=of_decide_eq_false h;omega
    subst h
    have hv:YW ((b0.toNat:Int)-240) (t.take (4-1))=some v:=hv
    rw[hv] at eS
    simp only at eS
    simp only[go_sem,h0,h4,h5,h6,h7]
    cases f1:decide (v<65536) with
    |true=>
     rw[if_pos (.inl (of_decide_eq_true f1))] at eS
     rw[eS]
     simp only[go_sem,f1,h0,h4,h5,h6,h7]
    |false=>
    cases f2:decide (1114111<v) with
    |true=>
     rw[if_pos (.inr (.inl (of_decide_eq_true f2)))] at eS
     rw[eS]
     simp only[go_sem,f1,f2,h0,h4,h5,h6,h7]
    |false=>
    have f1':=of_decide_eq_false f1
    have f2':=of_decide_eq_false f2
    cases f3:decide (55296≤v) with
    |false=>
     rw[if_neg (by have:=of_decide_eq_false f3;omega)] at eS
     rw[eS]
     simp only[go_sem,f1,f2,f3,h0,h4,h5,h6,h7]
    |true=>
    cases f4:decide (v<57344) with
    |true=>
     rw[if_pos (.inr (.inr ⟨of_decide_eq_true f3,of_decide_eq_true f4⟩))] at eS
     rw[eS]
     simp only[go_sem,f1,f2,f3,f4,h0,h4,h5,h6,h7]
    |false=>
     rw[if_neg (by have:=of_decide_eq_false f4;omega)] at eS
     rw[eS]
     simp only[go_sem,f1,f2,f3,f4,h0,h4,h5,h6,h7]
 have c6:=of_decide_eq_false c6
 have hcl:cls b0.toNat=(0,0,(b0.toNat:Int)):=by rw[cls,if_neg (by omega),if_neg (by omega),if_neg (by omega)]
 rw[hcl,if_pos (.inl rfl)] at eS
 rw[eS]
 simp only[go_sem]
end Sg
namespace Sg
open _root_.Go _root_.Go.RowKit _root_.Go.Proofs
def plainFm:List (Nat×Nat):=[(191,293)]
theorem okPlain:okF Tryz.prog (cxU plainFm) (onePg 191 F191) 293 F191=true:=by kernel_rfl
theorem plain_walk (r n:Int) (w:World) (hgn:2≤w.heap.size) (hT:Lib.Utf8Tabs 0 1 w) :
  Calls Tryz.prog 293 #[.int .i32 r,.int .i64 n] w fun e w'=>e=.returned (.bool (plainR r n))∧Below w.heap.size w w':=by
 have hk:K' (onePg 191 F191) 191 [.int .i32 r,.int .i64 n]=some (.bool (plainR r n)):=K191 (by simp[H191,onePg]) r n
 obtain⟨m,hm⟩:=K'_iff.1 hk
 have hc:=one_sound (P:=Tryz.prog) (cx:=cxU plainFm) (id:=191) (F:=F191) (by kernel_rfl) okPlain m 191 _ _ hm
 refine (hc.2 w (fun _=>False) #[.int .i32 r,.int .i64 n] (fun b hb=>hb.elim) hgn hT rfl (fun i hi=>by
  match i,hi with
  |0,_=>exact⟨_,rfl,.int _ _⟩
  |1,_=>exact⟨_,rfl,.int _ _⟩
  |k+2,hi=>exact absurd hi (by simp))).mono fun e w' ⟨v,he,hb,hr⟩=>?_
 have hr:=hr.data (fun b hb=>hb.elim)
 cases hr
 exact⟨he,hb⟩
theorem decCt (l:List (Nat×Nat)) (id:Nat) (h:(cxU l).fm id=292):∀args r,decQ args=some r→Ctr Tryz.prog (cxU l) none id args r:=
 dec_ctr (by rw[h];exact⟨_,Tryz.func292,by kernel_rfl,by kernel_rfl⟩) fun s w hG=>by rw[h];exact dec_walk s w hG
theorem keyCt (l:List (Nat×Nat)) (id:Nat) (h:(cxU l).fm id=260):∀args r,keyQ args=some r→Ctr Tryz.prog (cxU l) none id args r:=
 key_ctr (by rw[h];exact⟨_,Tryz.func260,by kernel_rfl,by kernel_rfl⟩) fun s w hgn hG=>by rw[h];exact key_walk s w hgn hG plain_walk
end Sg
namespace Sg
def putB (n:Nat):List UInt8:=if h:n<128 then [UInt8.ofNat n] else UInt8.ofNat (n % 128+128)::putB (n / 128)
termination_by n
decreasing_by omega
theorem YaO {n:Nat} (h:n<128):putB n=[UInt8.ofNat n]:=by rw[putB,dif_pos h]
theorem YaN {n:Nat} (h:128≤n):putB n=UInt8.ofNat (n % 128+128)::putB (n / 128):=by rw[putB,dif_neg (by omega)]
def tk:Nat→List UInt8→Option (Nat×List UInt8)
 |_,[]=>none
 |0,_::_=>none
 |k+1,b::s=>if b.toNat<128 then some (b.toNat,s) else (tk k s).bind fun q=>if q.1=0 then none else some (b.toNat-128+128*q.1,q.2)
theorem Yad {n:Nat} (h:n<256):(UInt8.ofNat n).toNat=n:=by
 simp[UInt8.toNat_ofNat'];omega
theorem YaI (n:Nat):1≤(putB n).length:=by
 rw[putB];split<;>simp
theorem Ycf:∀(k n:Nat) (r:List UInt8),(putB n).length≤k→tk k (putB n++r)=some (n,r)
 |0,n,r,h=>by have:=YaI n;omega
 |k+1,n,r,h=>by
  by_cases hn:n<128
  ·rw[YaO hn]
   simp only[List.cons_append,List.nil_append,tk,Yad (show n<256 by omega),if_pos hn]
  ·rw[YaN (by omega)] at h ⊢
   simp only[List.length_cons] at h
   simp only[List.cons_append,tk,Yad (show n % 128+128<256 by omega)]
   rw[if_neg (by omega),Ycf k (n / 128) r (by omega)]
   simp only[Option.bind_some]
   rw[if_neg (by omega)]
   congr 2
   omega
theorem Ybl:∀{k:Nat} {s:List UInt8} {n:Nat} {r:List UInt8},tk k s=some (n,r)→s=putB n++r∧(putB n).length≤k
 |_,[],n,r,h=>by simp[tk] at h
 |0,_::_,n,r,h=>by simp[tk] at h
 |k+1,b::s,n,r,h=>by
  simp only[tk] at h
  split at h
  ·rename_i hb
   simp only[Option.some.injEq,Prod.mk.injEq] at h
   obtain⟨rfl,rfl⟩:=h
   rw[YaO hb]
   refine⟨?_,by simp⟩
   simp
  ·rename_i hb
   cases hq:tk k s with
   |none=>rw[hq] at h;simp at h
   |some q=>
    rw[hq] at h
    simp only[Option.bind_some] at h
    split at h
    ·cases h
    rename_i h0
    obtain⟨m,r'⟩:=q
    simp only[Option.some.injEq,Prod.mk.injEq] at h h0
    obtain⟨rfl,rfl⟩:=h
    obtain⟨e,hl⟩:=Ybl hq
    have hb2:=b.toNat_lt
    have e1:(b.toNat-128+128*m) % 128+128=b.toNat:=by omega
    have e2:(b.toNat-128+128*m) / 128=m:=by omega
    rw[YaN (by omega),e1,e2,e]
    exact⟨by simp,by simp only[List.length_cons];omega⟩
theorem YdB {k:Nat} {s:List UInt8} {n:Nat} {r:List UInt8}:tk k s=some (n,r)↔s=putB n++r∧(putB n).length≤k:=
 ⟨Ybl,fun⟨e,h⟩=>by rw[e];exact Ycf k n r h⟩
theorem Ya6:∀(k n:Nat),(putB n).length≤k+1↔n<128 ^ (k+1)
 |0,n=>by
  by_cases hn:n<128
  ·rw[YaO hn];simpa using hn
  ·rw[YaN (by omega)]
   have:=YaI (n / 128)
   simp only[List.length_cons]
   constructor
   ·intro h;omega
   ·intro h;simp at h;omega
 |k+1,n=>by
  by_cases hn:n<128
  ·rw[YaO hn]
   simp only[List.length_singleton]
   refine⟨fun _=>?_,fun _=>by omega⟩
   have:128 ^ 1≤128 ^ (k+1+1):=Nat.pow_le_pow_right (by omega) (by omega)
   omega
  ·rw[YaN (by omega)]
   simp only[List.length_cons]
   have:=Ya6 k (n / 128)
   rw[Nat.add_le_add_iff_right,this,Nat.pow_succ 128 (k+1),Nat.div_lt_iff_lt_mul (by omega)]
theorem YY {n:Nat}:(putB n).length≤9↔n<2 ^ 63:=by
 have e:(128:Nat) ^ (8+1)=2 ^ 63:=by decide
 rw[Ya6 8 n,e]
theorem YeV {s:List UInt8} {n:Nat} {r:List UInt8} (h:tk 9 s=some (n,r)):n<2 ^ 63:=YY.1 (Ybl h).2
def YH (t:List UInt8):List UInt8:=putB t.length++t
def YS (b:Bool):List UInt8:=[if b then 1 else 0]
def tkT (s:List UInt8):Option (List UInt8×List UInt8):=(tk 9 s).bind fun q=>if q.1≤q.2.length then some (q.2.take q.1,q.2.drop q.1) else none
def tkF:List UInt8→Option (Bool×List UInt8)
 |[]=>none
 |b::s=>if b.toNat≤1 then some (decide (b.toNat=1),s) else none
theorem YdV {s t r:List UInt8}:tkT s=some (t,r)↔s=YH t++r∧t.length<2 ^ 63:=by
 unfold tkT YH
 constructor
 ·intro h
  cases hq:tk 9 s with
  |none=>rw[hq] at h;cases h
  |some q=>
   obtain⟨n,u⟩:=q
   rw[hq] at h
   simp only[Option.bind_some] at h
   split at h
   ·rename_i hn
    simp only[Option.some.injEq,Prod.mk.injEq] at h
    obtain⟨rfl,rfl⟩:=h
    have hl:(u.take n).length=n:=by simp;omega
    refine⟨?_,by rw[hl];exact YeV hq⟩
    rw[hl,(Ybl hq).1,List.append_assoc,List.take_append_drop]
   ·cases h
 ·rintro⟨rfl,h⟩
  rw[List.append_assoc,Ycf 9 _ _ (YY.2 h)]
  simp
theorem YeO {s r:List UInt8} {b:Bool}:tkF s=some (b,r)↔s=YS b++r:=by
 cases s with
 |nil=>simp[tkF,YS]
 |cons x s=>
  simp only[tkF,YS,List.cons_append,List.nil_append,List.cons.injEq]
  constructor
  ·intro h
   split at h
   ·rename_i hx
    simp only[Option.some.injEq,Prod.mk.injEq] at h
    obtain⟨rfl,rfl⟩:=h
    refine⟨?_,rfl⟩
    apply UInt8.toNat_inj.1
    by_cases h1:x.toNat=1
    ·simp[h1]
    ·have:x.toNat=0:=by omega
     simp[this]
   ·cases h
  ·rintro⟨rfl,rfl⟩
   cases b<;>simp
def val:List UInt8→Nat
 |[]=>0
 |b::l=>b.toNat % 128+128*val l
theorem YeQ:∀n,val (putB n)=n:=by
 intro n
 induction n using Nat.strongRecOn with
 |_ n ih=>
  by_cases h:n<128
  ·rw[YaO h];simp only[val,Yad (show n<256 by omega)];omega
  ·rw[YaN (by omega)]
   simp only[val,Yad (show n % 128+128<256 by omega),ih _ (show n / 128<n by omega)]
   omega
theorem YdC:∀l:List UInt8,val l<128 ^ l.length
 |[]=>by simp[val]
 |b::l=>by
  have:=YdC l
  simp only[val,List.length_cons,Nat.pow_succ]
  omega
theorem YeJ:∀n,∃l c,putB n=l++[c]∧(∀b∈l,128≤b.toNat)∧c.toNat<128:=by
 intro n
 induction n using Nat.strongRecOn with
 |_ n ih=>
  by_cases h:n<128
  ·exact⟨[],UInt8.ofNat n,YaO h,fun b hb=>by simp at hb,by rw[Yad (by omega)];exact h⟩
  ·obtain⟨l,c,e,h1,h2⟩:=ih _ (show n / 128<n by omega)
   refine⟨UInt8.ofNat (n % 128+128)::l,c,by rw[YaN (by omega),e];rfl,fun b hb=>?_,h2⟩
   rcases List.mem_cons.1 hb with rfl|hb
   ·rw[Yad (by omega)];omega
   ·exact h1 b hb
theorem YdJ:∀{l l':List UInt8} {c c':UInt8} {r r':List UInt8},l++c::r=l'++c'::r'→(∀b∈l,128≤b.toNat)→(∀b∈l',128≤b.toNat)→c.toNat<128→c'.toNat<128→l=l'∧c=c'∧r=r'
 |[],[],c,c',r,r',h,_,_,_,_=>by simp at h;exact⟨rfl,h.1,h.2⟩
 |[],b'::l',c,c',r,r',h,_,h2,h3,_=>by
  simp at h
  have:=h2 b' (by simp)
  rw[←h.1] at this;omega
 |b::l,[],c,c',r,r',h,h1,_,_,h4=>by
  simp at h
  have:=h1 b (by simp)
  rw[h.1] at this;omega
 |b::l,b'::l',c,c',r,r',h,h1,h2,h3,h4=>by
  simp at h
  obtain⟨e1,e2,e3⟩:=YdJ h.2 (fun x hx=>h1 x (by simp[hx])) (fun x hx=>h2 x (by simp[hx])) h3 h4
  exact⟨by rw[h.1,e1],e2,e3⟩
theorem tk_end {k:Nat} {l:List UInt8} {c:UInt8} {r:List UInt8} (hl:∀b∈l,128≤b.toNat) (hc:c.toNat<128) :
  tk k (l++c::r)=if l.length+1≤k∧putB (val (l++[c]))=l++[c] then some (val (l++[c]),r) else none:=by
 split
 ·rename_i h
  rw[YdB,h.2]
  exact⟨by simp,by simp;omega⟩
 ·rename_i h
  cases hq:tk k (l++c::r) with
  |none=>rfl
  |some q=>
   exfalso
   apply h
   obtain⟨m,r'⟩:=q
   obtain⟨e,hlen⟩:=Ybl hq
   obtain⟨l',c',p1,p2,p3⟩:=YeJ m
   rw[p1,List.append_assoc] at e
   obtain⟨rfl,rfl,-⟩:=YdJ e hl p2 hc p3
   rw[p1] at hlen
   rw[←p1,YeQ]
   exact⟨by simpa using hlen,rfl⟩
theorem tk_no:∀{k:Nat} {s:List UInt8},(∀b∈s.take k,128≤b.toNat)→tk k s=none
 |_,[],_=>by simp[tk]
 |0,_::_,_=>by simp[tk]
 |k+1,b::s,h=>by
  have h1:=h b (by simp)
  simp only[tk]
  rw[if_neg (by omega),tk_no (fun x hx=>h x (by simp[hx]))]
  rfl
end Sg
namespace Sg
open _root_.Go (IntKind BinOp UnOp)
variable {Pg : Nat → Option Fn}
@[go_sem] def Ye (l:List Int):V:=.slice 1 (l.map fun a=>[iz a])
def H62 (Pg:Nat→Option Fn):Prop:=Pg 62=some (.code F62)
theorem K62 (h:H62 Pg) (l:List Int) (n:Int) (hl:l.length<2 ^ 60):K' Pg 62 [Ye l,iz n]=some (.bool (decide (n∈l))):=by
 refine K'_code h rfl ?_
 simp only[go_sem]
 unfold l62_0
 refine JiG (fun (i:Nat) S=>i≤l.length∧S.ρ 0=Ye l∧S.ρ 1=iz n∧S.ρ 5=iz i∧n∉l.take i) (fun i=>l.length-i) 0 ?_ ?_
 ·simp[go_sem]
 ·intro i S ⟨hi,h0,h1,h5,ho⟩
  simp only[go_sem,h0,h1,h5]
  refine JiH (fun h=>?_) (fun h=>?_)
  ·have h:=Yg h
   obtain⟨x,hx,hd⟩:=Jin h
   simp only[go_sem,h0,h1,h5,hx]
   refine JiH (fun hc=>?_) (fun hc=>?_)
   ·have hc:x=n:=of_decide_eq_true hc
    have:n∈l:=hc▸List.mem_of_getElem? hx
    simp only[go_sem,this]
   ·have hc:x≠n:=of_decide_eq_false hc
    simp only[go_sem,h0,h1,h5]
    refine⟨i+1,by omega,by omega,by rw[Yi h hl],?_⟩
    rw[YA hx];simp;exact⟨ho,fun e=>hc e.symm⟩
  ·have h:=Ym hi h
   rw[Yao h] at ho
   simp only[go_sem,ho]
def H70 (Pg:Nat→Option Fn):Prop:=Pg 70=some (.code F70)
theorem K70 (h:H70 Pg) (a b:List Int) (hl:a.length<2 ^ 60):K' Pg 70 [Ye a,Ye b]=some (.bool (decide (a=b))):=by
 refine K'_code h rfl ?_
 simp only[go_sem]
 refine JiH (fun hc=>?_) (fun hc=>?_)
 ·have hc:¬a.length=b.length:=by intro e;simp[e] at hc
  have:a≠b:=fun e=>hc (by rw[e])
  simp only[go_sem,this]
 ·have hc:a.length=b.length:=by simp at hc;omega
  simp only[go_sem]
  unfold l70_0
  refine JiG (fun (i:Nat) S=>i≤a.length∧S.ρ 0=Ye a∧S.ρ 1=Ye b∧S.ρ 5=iz i∧a.take i=b.take i) (fun i=>a.length-i) 0 ?_ ?_
  ·simp[go_sem]
  ·intro i S ⟨hi,h0,h1,h5,ho⟩
   simp only[go_sem,h0,h1,h5]
   refine JiH (fun h=>?_) (fun h=>?_)
   ·have h:=Yg h
    obtain⟨x,hx,hd⟩:=Jin h
    obtain⟨y,hy,hd'⟩:=Jin (l:=b) (i:=i) (by omega)
    simp only[go_sem,h0,h1,h5,hx,hy]
    refine JiH (fun hc=>?_) (fun hc=>?_)
    ·have hne:x≠y:=by simpa using hc
     have:a≠b:=fun e=>hne (by subst e;rw[hx] at hy;simpa using hy)
     simp only[go_sem,this]
    ·have he:x=y:=by simpa using hc
     simp only[go_sem,h0,h1,h5]
     exact⟨i+1,by omega,by omega,by rw[Yi h hl],by rw[YA hx,YA hy,ho,he]⟩
   ·have h:=Ym hi h
    rw[Yao h,Yao (h.trans hc)] at ho
    simp only[go_sem,ho]
def YcL:List Int→Int→Nat→Int
 |[],_,_=>-1
 |a::l,n,i=>if n=a then i else YcL l n (i+1)
theorem Ydf:∀{l:List Int} {n:Int} {i:Nat},decide (0≤YcL l n i)=decide (n∈l)
 |[],n,i=>by simp[YcL]
 |a::l,n,i=>by
  simp only[YcL]
  split
  ·rename_i h;simp[h]
  ·rename_i h;rw[Ydf];simp[h]
def H75 (Pg:Nat→Option Fn):Prop:=Pg 75=some (.code F75)
theorem K75 (h:H75 Pg) (l:List Int) (n:Int) (hl:l.length<2 ^ 60):K' Pg 75 [Ye l,iz n]=some (iz (YcL l n 0)):=by
 refine K'_code h rfl ?_
 simp only[go_sem]
 unfold l75_0
 refine JiG (fun (i:Nat) S=>i≤l.length∧S.ρ 0=Ye l∧S.ρ 1=iz n∧S.ρ 7=iz l.length∧S.ρ 8=iz i∧YcL (l.drop i) n i=YcL l n 0) (fun i=>l.length-i) 0 ?_ ?_
 ·simp[go_sem]
 ·intro i S ⟨hi,h0,h1,h7,h8,ho⟩
  simp only[go_sem,h0,h1,h7,h8]
  refine JiH (fun h=>?_) (fun h=>?_)
  ·have h:=Yg h
   obtain⟨x,hx,hd⟩:=Jin h
   rw[hd] at ho
   simp only[go_sem,h0,h1,h7,h8,hx]
   refine JiH (fun hc=>?_) (fun hc=>?_)
   ·have hc:n=x:=of_decide_eq_true hc
    simp only[YcL,hc,if_true] at ho
    simp only[go_sem,←ho,hc]
   ·have hc:¬n=x:=of_decide_eq_false hc
    simp only[YcL,hc,if_false] at ho
    simp only[go_sem,h0,h1,h7,h8]
    exact⟨i+1,by omega,by omega,by rw[Yi h hl],ho⟩
  ·have h:=Ym hi h
   subst h
   simp only[List.drop_length,YcL] at ho
   simp only[go_sem,←ho]
def H65 (Pg:Nat→Option Fn):Prop:=Pg 65=some (.code F65)∧H75 Pg
theorem K65 (h:H65 Pg) (l:List Int) (n:Int) (hl:l.length<2 ^ 60):K' Pg 65 [Ye l,iz n]=some (.bool (decide (n∈l))):=by
 obtain⟨h,h75⟩:=h
 refine K'_code h rfl ?_
 have k75:=K75 h75 l n hl
 simp only[Ye] at k75
 simp only[go_sem,k75,Ydf]
def YcK:List Int→(Int→Bool)→Nat→Int
 |[],_,_=>-1
 |a::l,p,i=>if p a then i else YcK l p (i+1)
theorem Yde:∀{l:List Int} {p:Int→Bool} {i:Nat},decide (0≤YcK l p i)=l.any p
 |[],n,i=>by simp[YcK]
 |a::l,n,i=>by
  simp only[YcK]
  split
  ·rename_i h;simp[h]
  ·rename_i h;rw[Yde];simp[h]
def H76 (Pg:Nat→Option Fn):Prop:=Pg 76=some (.code F76)
theorem K76 (h:H76 Pg) (l:List Int) (g:Nat) (cap:List V) (p:Int→Bool) (hl:l.length<2 ^ 60) (hcap:cap.all V.datC=true) (hg:∀x∈l,K' Pg g (iz x::cap)=some (.bool (p x))) :
  K' Pg 76 [Ye l,.func g cap]=some (iz (YcK l p 0)):=by
 refine K'_code h rfl ?_
 simp only[go_sem]
 unfold l76_0
 refine JiG (fun (i:Nat) S=>i≤l.length∧S.ρ 0=Ye l∧S.ρ 1=.func g cap∧S.ρ 7=iz l.length∧S.ρ 8=iz i∧YcK (l.drop i) p i=YcK l p 0) (fun i=>l.length-i) 0 ?_ ?_
 ·simp[go_sem]
 ·intro i S ⟨hi,h0,h1,h7,h8,ho⟩
  simp only[go_sem,h0,h1,h7,h8]
  refine JiH (fun h=>?_) (fun h=>?_)
  ·have h:=Yg h
   obtain⟨x,hx,hd⟩:=Jin h
   rw[hd] at ho
   have hgx:=hg x (List.mem_of_getElem? hx)
   simp only[go_sem,h0,h1,h7,h8,hx,hgx]
   refine JiH (fun hc=>?_) (fun hc=>?_)
   ·simp only[YcK,hc,if_true] at ho
    simp only[go_sem,←ho]
   ·simp only[YcK,hc,Bool.false_eq_true,if_false] at ho
    simp only[go_sem,h0,h1,h7,h8]
    exact⟨i+1,by omega,by omega,by rw[Yi h hl],ho⟩
  ·have h:=Ym hi h
   subst h
   simp only[List.drop_length,YcK] at ho
   simp only[go_sem,←ho]
def H67 (Pg:Nat→Option Fn):Prop:=Pg 67=some (.code F67)∧H76 Pg
theorem K67 (h:H67 Pg) (l:List Int) (g:Nat) (cap:List V) (p:Int→Bool) (hl:l.length<2 ^ 60) (hcap:cap.all V.datC=true) (hg:∀x∈l,K' Pg g (iz x::cap)=some (.bool (p x))) :
  K' Pg 67 [Ye l,.func g cap]=some (.bool (l.any p)):=by
 obtain⟨h,h76⟩:=h
 refine K'_code h rfl ?_
 have k76:=K76 h76 l g cap p hl hcap hg
 simp only[Ye] at k76
 simp only[go_sem,k76,Yde]
def SetP (l:List Int):Prop:=l.length≤8∧(∀m∈l,1≤m∧m≤255)∧l.Nodup
instance (l:List Int):Decidable (SetP l):=inferInstanceAs (Decidable (_∧_∧_))
theorem Ycq {l:List Int} {i:Nat} {x:Int} (hx:l[i]?=some x) (h:¬(1≤x∧x≤255)∨x∈l.take i):¬SetP l:=by
 rintro⟨-,h2,h3⟩
 rcases h with h|h
 ·exact h (h2 x (List.mem_of_getElem? hx))
 ·have hi:i<l.length:=by
   rcases Nat.lt_or_ge i l.length with h|h
   ·exact h
   ·rw[List.getElem?_eq_none h] at hx;simp at hx
  obtain⟨y,hy,hd⟩:=Jin hi
  have:x=y:=by rw[hx] at hy;simpa using hy
  subst this
  rw[←List.take_append_drop i l,hd,List.nodup_append] at h3
  exact h3.2.2 x h x (List.mem_cons_self ..) rfl
theorem Ydm {l:List Int} {i:Nat} {x:Int} (hx:l[i]?=some x) (h:(∀m∈l.take i,1≤m∧m≤255)∧(l.take i).Nodup) (h1:1≤x∧x≤255) (h2:x∉l.take i) :
  (∀m∈l.take (i+1),1≤m∧m≤255)∧(l.take (i+1)).Nodup:=by
 rw[YA hx]
 refine⟨fun m hm=>?_,?_⟩
 ·rcases List.mem_append.1 hm with hm|hm
  ·exact h.1 m hm
  ·have:m=x:=by simpa using hm
   rw[this];exact h1
 ·rw[List.nodup_append]
  refine⟨h.2,by simp,fun a ha b hb e=>?_⟩
  have:b=x:=by simpa using hb
  rw[←this,←e] at h2
  exact h2 ha
def rowB (b:UInt8):List V:=[.int .u8 b.toNat]
theorem Ye9 {n:Nat} (h:n<256):rowB (UInt8.ofNat n)=[.int .u8 n]:=by simp[rowB,Yad h]
theorem u8w {n:Nat}:IntKind.u8.wrap (n:Int)=((n % 256:Nat):Int):=by simp[IntKind.wrap,IntKind.bits,IntKind.signed]
theorem YeU (n:Nat):IntKind.u8.wrap ((BitVec.ofInt 8 (IntKind.u8.wrap (n:Int)) ||| BitVec.ofInt 8 128).toNat:Int)=((n % 128+128:Nat):Int):=by
 have key:∀x:Fin 256,IntKind.u8.wrap ((BitVec.ofInt 8 ((x.1:Nat):Int) ||| BitVec.ofInt 8 128).toNat:Int)=((x.1 % 128+128:Nat):Int):=by decide
 rw[u8w (n:=n)]
 have:=key ⟨n % 256,by omega⟩
 simp only at this
 rw[this]
 omega
theorem Ydq (l:List UInt8) (n:Nat):bytesR (l.map rowB++[[.int .u8 (n:Int)]])=some (l++[UInt8.ofNat n]):=by
 induction l with
 |nil=>simp[bytesR]
 |cons b l ih=>
  show bytesR (rowB b::(l.map rowB++_))=_
  simp only[rowB,bytesR,ih]
  simp
theorem Yft (n:Nat):((n:Int).fdiv (2 ^ 7))=((n / 128:Nat):Int):=by
 have:((2:Int) ^ 7)=((128:Nat):Int):=rfl
 rw[this];exact (Int.ofNat_fdiv n 128).symm
def H456 (Pg:Nat→Option Fn):Prop:=Pg 456=some (.code F456)
theorem K456 (h:H456 Pg) (n:Nat) (hn:n<2 ^ 63):K' Pg 456 [iz n]=some (.tuple [.str (putB n),iz 0]):=by
 refine K'_code h rfl ?_
 have c0:decide ((n:Int)<0)=false:=decide_eq_false (by omega)
 simp only[F456,c456,go_sem,c0]
 unfold l456_0
 refine JiG (fun (m:Nat) S=>∃pre:List UInt8,pre++putB m=putB n∧S.ρ 0=iz m∧S.ρ 4=.own 4 1 pre.length∧S.A 4=some (1,pre.map rowB,.live)) (fun m=>m) n ?_ ?_
 ·exact⟨[],rfl,rfl,rfl,rfl⟩
 ·intro m S ⟨pre,hp,s0,s4,a4⟩
  have hlen:pre.length+1≤9:=by
   have h1:=YY.2 hn
   have h2:=YaI m
   rw[←hp,List.length_append] at h1;omega
  have hlim:pre.length+1≤lim:=by unfold lim;omega
  cases c1:decide ((128:Int)≤m) with
  |true=>
   have h128:128≤m:=by have:=of_decide_eq_true c1;omega
   rw[YaN h128] at hp
   have w7:((m:Int).fdiv (2 ^ min (Int.toNat 7) 64))=((m / 128:Nat):Int):=Yft m
   have hsh:shV .shr (iz m) (.int .u64 7)=some (iz ((m / 128:Nat):Int)):=by simp only[shV];rw[if_neg (by omega)];exact congrArg (fun x=>some (V.int .i64 x)) (Yft m)
   simp only[go_sem,s0,s4,a4,c1,YeU,List.length_map,hlim,hsh]
   refine⟨m / 128,by omega,pre++[UInt8.ofNat (m % 128+128)],by rw[←hp];simp,rfl,by rw[List.length_append];rfl,?_⟩
   rw[List.map_append,List.map_cons,Ye9 (by omega),←YeU];rfl
  |false=>
   have h128:m<128:=by have:=of_decide_eq_false c1;omega
   rw[YaO h128] at hp
   have hw:IntKind.u8.wrap (m:Int)=(m:Int):=by rw[u8w];omega
   simp only[go_sem,s0,s4,a4,c1,hw,List.length_map,hlim,Ydq,hp]
def YaK (n:Nat):List Int:=if h:n<128 then [(n:Int)] else ((n % 128:Nat):Int)::YaK (n / 128)
termination_by n
decreasing_by omega
theorem Yc1 {n:Nat} (h:n<128):YaK n=[(n:Int)]:=by rw[YaK,dif_pos h]
theorem Yc0 {n:Nat} (h:128≤n):YaK n=((n % 128:Nat):Int)::YaK (n / 128):=by rw[YaK,dif_neg (by omega)]
theorem Ycw:∀n,(YaK n).length=(putB n).length:=by
 intro n
 induction n using Nat.strongRecOn with
 |_ n ih=>
  by_cases h:n<128
  ·rw[Yc1 h,YaO h];rfl
  ·rw[Yc0 (by omega),YaN (by omega),List.length_cons,List.length_cons,ih _ (by omega)]
theorem YcN (n:Nat):YaK n=((n % 128:Nat):Int)::(if n / 128=0 then [] else YaK (n / 128)):=by
 by_cases h:n<128
 ·rw[Yc1 h,if_pos (by omega),Nat.mod_eq_of_lt h]
 ·rw[Yc0 (by omega),if_neg (by omega)]
theorem YdI (n:Nat):(n:Int).tmod 128=((n % 128:Nat):Int):=rfl
theorem Yey (n:Nat):(n:Int).tdiv 128=((n / 128:Nat):Int):=rfl
def H502 (Pg:Nat→Option Fn):Prop:=Pg 502=some (.code F502)
theorem K502 (h:H502 Pg) (n:Nat) (hn:n<2 ^ 63):K' Pg 502 [iz n]=some (Ye (YaK n)):=by
 refine K'_code h rfl ?_
 have wd:∀m:Nat,m<2 ^ 63→IntKind.i64.wrap ((m:Int).tdiv 128)=((m / 128:Nat):Int):=fun m hm=>by
  rw[Yey,JiD (by omega) (by omega)]
 have hl9:=YY.2 hn
 rw[←Ycw] at hl9
 simp only[F502,c502,go_sem,wd n hn,YdI]
 unfold l502_0
 refine JiG (fun (m:Nat) S=>m<2 ^ 63∧∃pre:List Int,pre++(if m=0 then [] else YaK m)=YaK n∧S.ρ 0=iz m∧S.ρ 3=.own 6 1 pre.length∧S.A 6=some (1,pre.map (fun a=>[iz a]),.live)) (fun m=>m) (n / 128) ?_ ?_
 ·exact⟨by omega,[((n % 128:Nat):Int)],(YcN n).symm,rfl,rfl,rfl⟩
 ·intro m S ⟨hm,pre,hp,s0,s3,a6⟩
  cases c1:decide ((0:Int)<m) with
  |true=>
   have h0:0<m:=by have:=of_decide_eq_true c1;omega
   rw[if_neg (by omega),YcN] at hp
   have hlim:pre.length+1≤lim:=by
    have:=congrArg List.length hp
    rw[List.length_append,List.length_cons] at this
    unfold lim;omega
   simp only[go_sem,s0,s3,a6,c1,YdI,wd m hm,List.length_map,hlim]
   refine⟨m / 128,by omega,by omega,pre++[((m % 128:Nat):Int)],by rw[←hp];simp,rfl,by rw[List.length_append];rfl,by rw[List.map_append];rfl⟩
  |false=>
   have h0:m=0:=by have:=of_decide_eq_false c1;omega
   subst h0
   rw[if_pos rfl,List.append_nil] at hp
   simp only[go_sem,s0,s3,a6,c1,hp,List.length_map]
theorem Yd7:∀(n:Nat) (i:Nat) (d:Int),(YaK n)[i]?=some d→(putB n)[i]?=some (UInt8.ofNat (d.toNat+if i+1<(YaK n).length then 128 else 0))∧0≤d∧d<128:=by
 intro n
 induction n using Nat.strongRecOn with
 |_ n ih=>
  intro i d hd
  by_cases h:n<128
  ·rw[Yc1 h] at hd ⊢
   rw[YaO h]
   cases i with
   |zero=>simp at hd;subst hd;simp;omega
   |succ i=>simp at hd
  ·have:=YaI (n / 128)
   rw[Yc0 (by omega)] at hd ⊢
   rw[YaN (by omega)]
   have hl:=Ycw (n / 128)
   cases i with
   |zero=>
    simp at hd
    subst hd
    simp only[List.getElem?_cons_zero,List.length_cons]
    rw[if_pos (by omega)]
    exact⟨by congr 2,by omega,by omega⟩
   |succ i=>
    simp only[List.getElem?_cons_succ] at hd ⊢
    obtain⟨e1,e2,e3⟩:=ih _ (by omega) i d hd
    rw[e1]
    refine⟨?_,e2,e3⟩
    simp only[List.length_cons,Nat.add_lt_add_iff_right]
def H487 (Pg:Nat→Option Fn):Prop:=Pg 487=some (.code F487)∧H502 Pg
theorem K487 (h:H487 Pg) (n:Nat) (hn:n<2 ^ 63):K' Pg 487 [iz n]=some (.tuple [.str (putB n),iz 0]):=by
 obtain⟨h,h502⟩:=h
 have k502:=K502 h502 n hn
 simp only[go_sem] at k502
 refine K'_code h rfl ?_
 have c0:decide ((n:Int)<0)=false:=decide_eq_false (by omega)
 have hl:=Ycw n
 have hl9:=YY.2 hn
 simp only[F487,c487,go_sem,c0,k502]
 unfold l487_0
 refine JiG (fun (i:Nat) S=>i≤(YaK n).length∧S.ρ 4=.slice 1 ((YaK n).map fun a=>[iz a])∧S.ρ 5=.str ((putB n).take i)∧S.ρ 6=iz i) (fun i=>(YaK n).length-i) 0 ?_ ?_
 ·exact⟨Nat.zero_le _,rfl,rfl,rfl⟩
 ·intro i S ⟨hi,s4,s5,s6⟩
  cases c1:decide ((i:Int)<((YaK n).length:Int)) with
  |false=>
   have hi':i=(putB n).length:=by have:=of_decide_eq_false c1;omega
   rw[hi',List.take_length] at s5
   simp only[go_sem,s4,s5,s6,c1,List.length_map]
  |true=>
   have hlt:=Yg c1
   obtain⟨d,hd,-⟩:=Jin hlt
   obtain⟨p1,p2,p3⟩:=Yd7 n i d hd
   have htk:(putB n).take (i+1)=(putB n).take i++[UInt8.ofNat (d.toNat+if i+1<(YaK n).length then 128 else 0)]:=by rw[List.take_add_one,p1];rfl
   have hinc:IntKind.i64.wrap ((i:Int)+1)=((i+1:Nat):Int):=by rw[JiD (by omega) (by omega)];omega
   have hdec:IntKind.i64.wrap (((YaK n).length:Int)-1)=((YaK n).length:Int)-1:=JiD (by omega) (by omega)
   have hstr:((putB n).take i).length+1≤4611686018427387904:=by rw[List.length_take];omega
   cases c2:decide ((i:Int)<((YaK n).length:Int)-1) with
   |true=>
    have h2:i+1<(YaK n).length:=by have:=of_decide_eq_true c2;omega
    rw[if_pos h2] at htk
    have hw:IntKind.i64.wrap (d+128)=d+128:=JiD (by omega) (by omega)
    have hb:IntKind.u8.wrap (d+128)=d+128:=by simp[IntKind.wrap,IntKind.bits,IntKind.signed];omega
    have hto:(d+128).toNat=d.toNat+128:=by omega
    simp only[go_sem,s4,s5,s6,c1,c2,hd,hlt,hinc,hdec,hw,hb,hto,hstr,List.length_map,List.length_cons,List.length_nil]
    exact⟨i+1,by omega,by omega,by rw[htk],rfl⟩
   |false=>
    have h2:¬i+1<(YaK n).length:=by have:=of_decide_eq_false c2;omega
    rw[if_neg h2,Nat.add_zero] at htk
    have hb:IntKind.u8.wrap d=d:=by simp[IntKind.wrap,IntKind.bits,IntKind.signed];omega
    simp only[go_sem,s4,s5,s6,c1,c2,hd,hlt,hinc,hdec,hb,hstr,List.length_map,List.length_cons,List.length_nil]
    exact⟨i+1,by omega,by omega,by rw[htk];rfl,rfl⟩
end Sg
