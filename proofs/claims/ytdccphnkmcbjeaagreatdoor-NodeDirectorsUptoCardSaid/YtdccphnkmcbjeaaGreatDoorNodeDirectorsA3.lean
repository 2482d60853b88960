/- NodeDirectors, wherever what it reads is of bulk at most 1048576: proved over a checked abstract run of the translated code; no condition but that. A part. -/
import Derived.Test.YtdccphnkmcbjeaaGreatDoorChecked
import Derived.Lib.LaidU8
import Derived.Lib.OthersKept
import Derived.Laws.RangeAny
import Derived.WalkKit
import Derived.BigCall
import Derived.Test.YtdccphnkmcbjeaaGreatDoorG2
set_option linter.unusedSimpArgs false
set_option linter.unusedVariables false
set_option linter.constructorNameAsVariable false
set_option linter.defProp false
set_option maxRecDepth 100000
set_option maxHeartbeats 4000000
namespace Sg
abbrev PgT:=Nat→Option Fn
theorem inc64q {i:Nat} (h:i<9223372036854775807):_root_.Go.IntKind.i64.wrap ((i:Int)+1)=((i+1:Nat):Int):=by rw[JiV (by omega) (by omega)];omega
end Sg
namespace Sg
def look {α:Type}:List (Nat×α)→Nat→Option α
 |[],_=>none
 |(k,a)::l,n=>if k=n then some a else look l n
def plQ:Option Nat→Bool
 |some j=>decide (j<3000)
 |none=>true
def rfQ (F:F) (j:Nat):Bool:=F.own.isNone&&nsC j F.body&&decide (j<1000)
def okTab (P:Go.Program) (cx:Cx) (tab:List (Nat×Fn)):List (Nat×Fn)→Bool
 |[]=>true
 |(k,.code F)::l=>okF P cx (look tab) (cx.fm k) F&&okTab P cx tab l
 |(k,.codeR F j)::l=>okF P cx (look tab) (cx.fm k) F&&rfQ F j&&okTab P cx tab l
 |(_,.prim o _)::l=>plQ o&&okTab P cx tab l
theorem look_mem {α:Type}:∀{l:List (Nat×α)} {n:Nat} {a:α},look l n=some a→(n,a)∈l
 |(k,b)::l,n,a,h=>by
  simp only[look] at h;split at h
  ·rename_i e;subst e;simp only[Ga] at h;subst h;exact Gaj
  ·exact Gag _ (look_mem h)
 |[],n,a,h=>by simp[look] at h
def fnQ (P:Go.Program) (cx:Cx) (tab:List (Nat×Fn)) (k:Nat):Fn→Prop
 |.code F=>okF P cx (look tab) (cx.fm k) F=true
 |.codeR F j=>okF P cx (look tab) (cx.fm k) F=true∧rfQ F j=true
 |.prim o _=>plQ o=true
theorem Ybd {P:Go.Program} {cx:Cx} {tab:List (Nat×Fn)}:∀{l:List (Nat×Fn)},okTab P cx tab l=true→∀k f,(k,f)∈l→fnQ P cx tab k f
 |(k',g)::l,h,k,f,hm=>by
  have h2:fnQ P cx tab k' g∧okTab P cx tab l=true:=by
   cases g<;>simp only[okTab,Gi] at h
   ·exact h
   ·exact h
   ·exact⟨h.1,h.2⟩
  simp only[GW,Gf] at hm;rcases hm with ⟨rfl,rfl⟩|hm
  ·exact h2.1
  ·exact Ybd h2.2 k f hm
 |[],h,k,f,hm=>by simp at hm
theorem tab_sound {P:Go.Program} {cx:Cx} {tab:List (Nat×Fn)} (hm:P.follows .mixedOrders=true) (hok:okTab P cx tab tab=true)
  (hprim:∀f own p,look tab f=some (.prim own p)→∀args r,p args=some r→Ctr P cx own f args r)
  (hins:∀f z p,z<1000→look tab f=some (.prim (some (1000+z)) p)→∃tS el,InsC P (cx.fm f) z tS el) (hdel:∀f z p,look tab f=some (.prim (some (2000+z)) p)→DelC P (cx.fm f) z)
  (n f:Nat) (args:List V) (r:V) (h:Jn (look tab) n f args=some r):Ctr P cx (ownOf (look tab) f) f args r:=
 (J2 hm (fun f F hf=>Ybd hok f _ (look_mem hf)) hprim hins hdel (fun f F k hf=>by
  have h1:fnQ P cx tab f (.codeR F k):=Ybd hok f _ (look_mem hf);have h2:=h1.2;simp only[rfQ,Gi,G9] at h2;exact⟨h1.1,h2.1.1,h2.1.2⟩) (fun f own p hf k hk ho=>by
  have h1:fnQ P cx tab f (.prim own p):=Ybd hok f _ (look_mem hf);subst ho;simp only[fnQ,plQ,GA] at h1;omega) n f args r h).1
end Sg
namespace Sg
open _root_.Go (IntKind BinOp UnOp)
@[go_sem] abbrev z_0 : List V := [.str [],.str [],.int .i64 0,.int .i64 0,.int .i64 0]
@[go_sem] abbrev z_1 : List V := [.str [],.str []]
@[go_sem] abbrev z_2 : List V := [.int .i64 0,.int .i64 0,.int .i64 0,.bool false,.str []]
@[go_sem] abbrev z_3 : List V := [.int .i64 0,.int .i64 0,.int .i64 0,.int .i64 0,.int .i64 0,.int .i64 0,.bool false,.str [],.slice 2 [],.str [],.bool false]
@[go_sem] abbrev z_4 : List V := [.int .i64 0,.int .i64 0,.slice 1 [],.int .i64 0,.str [],.str [],.slice 1 []]
@[go_sem] abbrev z_5 : List V := [.int .i64 0,.int .i64 0,.int .i64 0,.int .i64 0,.int .i64 0,.slice 1 [],.str []]
@[go_sem] abbrev z_6 : List V := [.str [],.slice 5 []]
@[go_sem] abbrev z_7 : List V := [.slice 17 [],.int .i64 0,.int .i64 0,.int .i64 0,.int .i64 0]
@[go_sem] abbrev z_8 : List V := [.int .i64 0,.int .i64 0,.int .i64 0,.int .i64 0,.bool false,.str [],.slice 2 [],.str [],.bool false]
@[go_sem] abbrev z_9 : List V := [.int .i64 0,.int .i64 0,.str [],.str [],.int .i64 0,.slice 2 [],.int .i64 0,.int .i64 0,.int .i64 0,.int .i64 0,.int .i64 0,.int .i64 0,.slice 11 [],.int .i64 0,.int .i64 0,.int .i64 0,.int .i64 0]
@[go_sem] abbrev z_10 : List V := [.int .i64 0,.int .i64 0,.int .i64 0,.int .i64 0,.int .i64 0]
@[go_sem] abbrev z_11 : List V := [.int .i64 0,.slice 1 [],.bool false]
@[go_sem] abbrev z_12 : List V := [.int .i64 0,.int .i64 0,.int .i64 0,.int .i64 0,.int .i64 0,.int .i64 0,.int .i64 0]
@[go_sem] abbrev z_13 : List V := [.slice 5 [],.slice 3 [],.int .i64 0,.slice 5 [],.slice 3 [],.int .i64 0,.int .i64 0,.int .i64 0,.int .i64 0,.int .i64 0,.int .i64 0,.int .i64 0,.int .i64 0,.int .i64 0,.int .i64 0,.int .i64 0,.str [],.slice 1 [],.int .i64 0,.int .i64 0,.int .i64 0,.str [],.str [],.slice 1 [],.int .i64 0,.int .i64 0,.int .i64 0,.slice 1 [],.slice 7 []]
@[go_sem] abbrev z_14 : List V := [.slice 5 [],.nslice 3,.int .i64 0,.slice 5 [],.slice 3 [],.int .i64 0,.int .i64 0,.int .i64 0,.int .i64 0,.int .i64 0,.int .i64 0,.int .i64 0,.int .i64 0,.int .i64 0,.int .i64 0,.int .i64 0,.str [],.slice 1 [],.int .i64 0,.int .i64 0,.int .i64 0,.str [],.str [],.slice 1 [],.int .i64 0,.int .i64 0,.int .i64 0,.slice 1 [],.nslice 7]
@[go_sem] abbrev z_15 : List V := [.bool false,.bool false,.bool false,.bool false]
@[go_sem] abbrev z_16 : List V := [.int .i64 0,.int .i64 0,.int .i64 0,.slice 1 [],.int .i64 0,.str [],.str [],.slice 1 [],.slice 36 []]
@[go_sem] abbrev z_17 : List V := [.int .i64 0,.slice 9 []]
@[go_sem] abbrev z_18 : List V := [.int .i64 0,.nslice 9]
@[go_sem] abbrev z_19 : List V := [.int .i64 0,.int .i64 0,.int .i64 0]
@[go_sem] abbrev z_20 : List V := [.int .i64 0,.int .i64 0,.int .i64 0,.int .i64 0,.int .i64 0,.int .i64 0,.int .i64 0,.int .i64 0,.int .i64 0,.int .i64 0,.int .i64 0,.int .i64 0,.str [],.int .i64 0,.int .i64 0,.int .i64 0,.str [],.str [],.bool false,.str [],.int .i64 0,.int .i64 0,.int .i64 0,.str [],.int .i64 0,.int .i64 0,.int .i64 0,.int .i64 0,.int .i64 0,.bool false,.str [],.slice 2 [],.str [],.bool false,.slice 5 [],.slice 1 []]
@[go_sem] abbrev z_21 : List V := [.str [],.bool false]
@[go_sem] abbrev z_22 : List V := [.nslice 17,.int .i64 0,.int .i64 0,.int .i64 0,.int .i64 0]
@[go_sem] abbrev z_23 : List V := [.int .i64 0,.int .i64 0,.int .i64 0,.str [],.str [],.bool false,.str [],.int .i64 0,.int .i64 0,.int .i64 0,.str [],.int .i64 0]
@[go_sem] abbrev z_24 : List V := [.str [],.nslice 5]
@[go_sem] abbrev z_25 : List V := [.int .i64 0,.int .i64 0,.str [],.str [],.int .i64 0,.nslice 2,.int .i64 0,.int .i64 0,.int .i64 0,.int .i64 0,.int .i64 0,.int .i64 0,.nslice 11,.int .i64 0,.int .i64 0,.int .i64 0,.int .i64 0]
@[go_sem] abbrev z_26 : List V := [.int .i64 0,.str [],.str [],.int .i64 0,.bool false,.bool false,.int .i64 0,.slice 9 [],.slice 5 [],.slice 3 [],.int .i64 0,.slice 5 [],.slice 3 [],.int .i64 0,.int .i64 0,.int .i64 0,.int .i64 0,.int .i64 0,.int .i64 0,.int .i64 0,.int .i64 0,.int .i64 0,.int .i64 0,.int .i64 0,.str [],.slice 1 [],.int .i64 0,.int .i64 0,.int .i64 0,.str [],.str [],.slice 1 [],.int .i64 0,.int .i64 0,.int .i64 0,.slice 1 [],.slice 7 [],.bool false]
@[go_sem] abbrev z_27 : List V := [.nslice 5,.nslice 3,.int .i64 0,.nslice 5,.nslice 3,.int .i64 0,.int .i64 0,.int .i64 0,.int .i64 0,.int .i64 0,.int .i64 0,.int .i64 0,.int .i64 0,.int .i64 0,.int .i64 0,.int .i64 0,.str [],.slice 1 [],.int .i64 0,.int .i64 0,.int .i64 0,.str [],.str [],.slice 1 [],.int .i64 0,.int .i64 0,.int .i64 0,.slice 1 [],.nslice 7]
@[go_sem] abbrev z_28 : List V := [.int .i64 0,.int .i64 0,.int .i64 0,.int .i64 0,.int .i64 0,.int .i64 0,.int .i64 0,.int .i64 0,.str [],.slice 1 [],.int .i64 0,.int .i64 0,.int .i64 0,.str [],.str [],.slice 1 [],.int .i64 0,.int .i64 0,.int .i64 0,.slice 1 []]
@[go_sem] abbrev z_29 : List V := [.str [],.str [],.int .i64 0,.bool false,.bool false]
@[go_sem] abbrev z_30 : List V := [.int .i64 0,.int .i64 0,.int .i64 0,.slice 1 [],.int .i64 0,.str [],.str [],.slice 1 [],.nslice 36]
@[go_sem] abbrev z_31 : List V := [.int .i64 0,.int .i64 0,.int .i64 0,.int .i64 0,.int .i64 0,.int .i64 0,.int .i64 0,.int .i64 0,.str [],.nslice 1,.int .i64 0,.int .i64 0,.int .i64 0,.str [],.str [],.slice 1 [],.int .i64 0,.int .i64 0,.int .i64 0,.slice 1 []]
def l141_0 : C := .loop [] [] [5] [] (rs 12 (q3 (.bin .lss (.g 11) (.g 10))<|qe) <| sq (cd 12 .skip <| .exit 0) <| sq (bk 1 (rs 13 (qm 11<|q1 (.iad 5 (.g 9) (.g 11))<|qJ 5<|qG 5 z_0<|qV 4 0<|qs 5 5 3 2<|qe) <| i1 16 (qr 5 2<|qc 162<|qn<|yo<|qr 5 4<|qc 162<|qn<|zo 4<|yo<|qr 5 3<|qc 163<|qn<|zO 10<|qe) 31 (rs 0 (qF 2<|qe) .ret) <| i1 32 (qm 0<|qm 4<|q1 (.sl false 5 (.l 0) none (some (.l 1)))<|q1 (.fn 164 [.g 5] [5])<|q3 (.call (.k 165) .no none [.l 2,.l 3])<|qe) 36 (rs 0 (qF 2<|qe) .ret) <| r1 37 (qm 3<|qR 5 0 2<|q1 (.mks 2 1 z_1 [(0,.l 2)])<|q1 (.app 3 2 (.l 0) (.l 3))<|qv 3<|qe))) <| r1 42 (q1 (.bin .add (.g 11) (ci 1))<|qv 11<|qe))
def c141 : C := rs 0 (qF 2<|qe) <| i1 6 (qm 0<|qh false<|qK .gtr 8<|qe) 8 (rs 0 (qF 2<|qe) .ret) <| rs 3 (q3 (.mko 2)<|qe) <| sq (rs 9 (q3 (.mov (.g 0))<|qH false<|q3 (.mov (ci 0))<|qe) <| bk 0 l141_0) <| rs 43 (qm 3<|q1 (.call (.k 166) .borrow none [.l 0])<|qv 2<|qe) .ret
def F141 : F := mF 1 [.t 2] none c141
attribute [go_sem] c141 F141
def c142 : C := rs 0 (qB 2 0<|qF 4<|qe) <| rs 5 (qb 2 2<|qc 167<|ya<|qm 1<|qc 168<|za 2<|ya<|qm 1<|qr 2 0<|qr 2 1<|qC 169 (ls [7,9,11])<|za 6<|qv 4<|qe) .ret
def F142 : F := mF 2 [.t 4] none c142
attribute [go_sem] c142 F142
def l147_1 : C := .loop [] [] [] [] (lq 57 (qm 5<|qm 0<|qh false<|qQ .lss 0<|qe) 60 2 <| sq (bk 3 (rt 63 (qm 0<|qm 5<|qi 5<|qg 2<|qj<|qm 0<|qm 4<|qi 5<|qg 2<|qj<|qQ .eql 4<|qe) <| cd 73 (rs 0 (qF 2<|qe) .ret) .skip)) <| r1 61 (qm 5<|qk .add 1<|qv 5<|qe))
def l147_0 : C := .loop [] [] [] [] (lq 9 (qm 4<|qm 0<|qh false<|qQ .lss 0<|qe) 12 0 <| sq (bk 1 (rs 15 (qm 3<|qm 0<|qm 4<|qi 5<|qg 0<|qJ 2<|q1 (.mks 2 1 z_1 [(0,.l 5)])<|q1 (.app 3 2 (.l 0) (.l 6))<|qv 3<|qe) <| i1 23 (qm 0<|qm 4<|qi 5<|qg 2<|qj<|qc 173<|qn<|yo<|qm 0<|qm 4<|qi 5<|qg 4<|qj<|qc 173<|qn<|zo 7<|yo<|qm 0<|qm 4<|qi 5<|qg 3<|qj<|qk .lss 1<|zo 16<|yo<|qm 0<|qm 4<|qi 5<|qg 3<|qj<|qk .gtr 3<|zO 24<|qe) 54 (rs 0 (qF 2<|qe) .ret) <| rs 55 (qm 4<|qk .add 1<|qv 5<|qe) <| bk 2 l147_1)) <| r1 13 (qm 4<|qk .add 1<|qv 4<|qe))
def c147 : C := rs 0 (qF 2<|qe) <| i1 6 (qm 0<|qh false<|qK .gtr 8<|qe) 8 (rs 0 (qF 2<|qe) .ret) <| rs 3 (q3 (.mko 2)<|qe) <| sq (rs 0 (qz 4 0<|qe) <| bk 0 l147_0) <| rs 74 (qm 3<|q1 (.call (.k 174) .borrow none [.l 0])<|qv 2<|qe) .ret
def F147 : F := mF 1 [.t 2] none c147
attribute [go_sem] c147 F147
def l149_0 : C := .loop [] [] [] [] (lq 13 (qm 6<|qm 0<|qh false<|qQ .lss 0<|qe) 16 0 <| sq (bk 1 (rs 19 (qm 0<|qm 6<|qi 5<|qg 0<|qJ 2<|qm 1<|q3 (.call (.k 142) .no none [.l 4,.l 5])<|qe) <| cd 25 (rs 26 (qm 0<|qm 6<|qi 5<|qJ 5<|qt 4 5 3<|qT 5<|qe) .ret) .skip)) <| r1 17 (qm 6<|qk .add 1<|qv 6<|qe))
def c149 : C := rs 0 (qG 4 z_0<|qF 5<|qe) <| i1 7 (qm 1<|qh true<|qK .eql 0<|qe) 9 (rs 10 (qm 0<|q1 (.iad 5 (.l 0) (ci 0))<|qJ 5<|qt 4 5 2<|qT 5<|qe) .ret) <| sq (rs 0 (qz 6 0<|qe) <| bk 0 l149_0) <| rs 30 (q1 (.build z_0 [])<|qt 4 5 0<|qF 5<|qe) .ret
def F149 : F := mF 2 [.cell 4 (some 5),.t 5] none c149
attribute [go_sem] c149 F149
def l153_0 : C := .loop [] [] [] [] (lq 11 (qm 5<|qm 0<|qh false<|qQ .lss 0<|qe) 14 0 <| sq (bk 1 (rt 17 (qm 0<|qm 5<|qi 5<|qJ 5<|qm 1<|qm 5<|qi 5<|qJ 5<|q3 (.eqa true [.s,.s,.i,.i,.i] (.l 3) (.l 7))<|qe) <| cd 25 (rs 0 (qF 4<|qe) .ret) .skip)) <| r1 15 (qm 5<|qk .add 1<|qv 5<|qe))
def c153 : C := rs 0 (qF 4<|qe) <| i1 6 (qm 0<|qh false<|qm 1<|qh false<|qQ .neq 1<|qe) 10 (rs 0 (qF 4<|qe) .ret) <| sq (rs 0 (qz 5 0<|qe) <| bk 0 l153_0) <| rs 0 (qT 4<|qe) .ret
def F153 : F := mF 2 [.t 4] none c153
attribute [go_sem] c153 F153
def c162 : C := rs 0 (qF 2<|qe) <| rs 3 (qm 0<|qk .geq 1<|ya<|qm 0<|qk .leq 1099511627776<|za 2<|qv 2<|qe) .ret
def F162 : F := mF 1 [.t 2] none c162
attribute [go_sem] c162 F162
def c163 : C := rs 0 (qF 2<|qe) <| rs 3 (qm 0<|qk .geq 1<|ya<|qm 0<|qk .leq 3<|za 2<|qv 2<|qe) .ret
def F163 : F := mF 1 [.t 2] none c163
attribute [go_sem] c163 F163
def c164 : C := rs 0 (qB 2 0<|qF 3<|qe) <| rs 4 (qr 2 2<|qf 1 2<|qj<|qq .eql 1<|qv 3<|qe) .ret
def F164 : F := mF 2 [.t 3] none c164
attribute [go_sem] c164 F164
def c165 : C := rs 0 (qF 4<|qe) <| rs 5 (qm 0<|qm 1<|qd 185<|qk .geq 0<|qv 4<|qe) .ret
def F165 : F := mF 2 [.t 4] none c165
attribute [go_sem] c165 F165
def l166_0 : C := .loop [] [] [5] [] (rs 9 (q3 (.bin .lss (.g 8) (.g 7))<|qe) <| sq (cd 9 .skip <| .exit 0) <| sq (bk 1 (rs 10 (qm 8<|q1 (.iad 2 (.g 6) (.g 8))<|qJ 2<|qG 5 z_1<|qV 4 0<|qs 5 2 3 2<|qe) <| i1 13 (qb 5 2<|qc 186<|qn<|yo<|qr 5 0<|qm 3<|qq .neq 5<|zo 3<|yo<|qm 4<|qk .gtr 0<|ya<|qm 3<|q1 (.bin .eql (.l 13) (.c (.str [])))<|y0 9<|qa 12<|zO 9<|qe) 29 (rs 0 (qF 2<|qe) .ret) <| r1 30 (qr 5 1<|qv 3<|qe))) <| r1 32 (q1 (.bin .add (.g 8) (ci 1))<|qv 8<|qe))
def c166 : C := rs 0 (qF 2<|qe) <| rs 0 (qE 3<|qe) <| sq (rs 6 (q3 (.mov (.g 0))<|qH false<|q3 (.mov (ci 0))<|qe) <| bk 0 l166_0) <| rs 33 (qm 0<|qh false<|qk .gtr 0<|ya<|qm 3<|q1 (.bin .eql (.l 4) (.c (.str [])))<|za 3<|qv 2<|qe) .ret
def F166 : F := mF 1 [.t 2] none c166
attribute [go_sem] c166 F166
def c167 : C := rs 0 (qB 1 0<|qF 2<|qe) <| i1 3 (qr 1 0<|qh true<|qk .gtr 0<|ya<|qr 1 0<|qc 168<|qn<|zA 4<|qe) 12 (rs 0 (qF 2<|qe) .ret) <| i1 13 (qr 1 1<|qh true<|qK .eql 0<|qe) 16 (rs 0 (qT 2<|qe) .ret) <| rs 17 (qr 1 1<|qc 168<|ya<|qr 1 0<|qr 1 1<|qC 187 (ls [5,7])<|qk .eql (-1)<|za 3<|qv 2<|qe) .ret
def F167 : F := mF 1 [.t 2] none c167
attribute [go_sem] c167 F167
def l168_0 : C := .loop [] [] [] [] (lq 13 (qm 0<|qh true<|qK .gtr 0<|qe) 15 0 <| bk 1 (rs 17 (qm 0<|qc 188<|q2 16 (.mov (.l 1))<|qx 0<|qy 1<|qw 3<|qw 4<|qe) <| i1 21 (qm 3<|qc 189<|qN<|qe) 23 (rs 0 (qF 2<|qe) .ret) <| r1 24 (qm 0<|qm 4<|q1 (.sl true 0 (.l 0) (some (.l 1)) none)<|qv 0<|qe)))
def c168 : C := rs 0 (qF 2<|qe) <| i1 5 (qm 0<|qh true<|qk .eql 0<|yo<|qm 0<|qh true<|qk .gtr 16<|zO 3<|qe) 12 (rs 0 (qF 2<|qe) .ret) <| sq (bk 0 l168_0) <| rs 0 (qT 2<|qe) .ret
def F168 : F := mF 1 [.t 2] none c168
attribute [go_sem] c168 F168
def c169 : C := rs 0 (qF 6<|qe) <| rs 7 (qm 0<|qm 1<|qd 187<|qk .geq 0<|ya<|qm 2<|qh true<|qk .eql 0<|yo<|qm 0<|qm 2<|qd 187<|qk .lss 0<|y1 4<|qo 8<|za 4<|qv 6<|qe) .ret
def F169 : F := mF 3 [.t 6] none c169
attribute [go_sem] c169 F169
def c171 : C := rs 0 (qB 2 0<|qF 4<|qe) <| rs 5 (qb 2 2<|qc 186<|ya<|qm 1<|qc 170<|za 2<|ya<|qr 2 0<|qm 1<|qd 192<|qk .leq 0<|za 6<|ya<|qr 2 1<|q1 (.bin .eql (.l 15) (.c (.str [])))<|yo<|qm 1<|qr 2 1<|qC 192 (ls [18,20])<|qk .lss 0<|y1 13<|qo 17<|za 13<|qv 4<|qe) .ret
def F171 : F := mF 2 [.t 4] none c171
attribute [go_sem] c171 F171
def c173 : C := rs 0 (qF 2<|qe) <| rs 3 (qm 0<|qk .gtr 0<|ya<|qm 0<|qk .leq 1099511627776<|za 2<|qv 2<|qe) .ret
def F173 : F := mF 1 [.t 2] none c173
attribute [go_sem] c173 F173
def l174_0 : C := .loop [] [] [5] [] (lq 20 (qm 4<|qm 0<|qh false<|qQ .lss 0<|qe) 23 0 <| sq (bk 1 (rt 27 (qb 3 2<|qm 0<|qm 4<|qi 2<|qJ 2<|qC 184 (ls [0,4])<|q2 26 (.mov (.l 5))<|qx 0<|qy 1<|qG 5 z_1<|qs 5 2 9 7<|qV 6 8<|qe) <| i1 35 (qm 6<|qK .neq 0<|qe) 36 (rs 0 (qF 2<|qe) .ret) <| r1 37 (qb 5 2<|qt 3 2 0<|qe))) <| r1 24 (qm 4<|qk .add 1<|qv 4<|qe))
def c174 : C := rs 0 (qF 2<|qe) <| i1 7 (qm 0<|qh false<|qk .eql 0<|yo<|qm 0<|q1 (.iad 2 (.l 4) (ci 0))<|qJ 2<|qc 167<|qn<|zO 3<|qe) 16 (rs 0 (qF 2<|qe) .ret) <| rs 17 (qm 0<|q1 (.iad 2 (.l 0) (ci 0))<|qJ 2<|qG 3 z_1<|qs 3 2 3 2<|qe) <| sq (rs 0 (qz 4 1<|qe) <| bk 0 l174_0) <| rs 38 (qb 3 2<|q1 (.build z_1 [])<|q1 (.eqa false [.s,.s] (.l 0) (.l 1))<|qv 2<|qe) .ret
def F174 : F := mF 1 [.t 2] none c174
attribute [go_sem] c174 F174
def c184 : C := rs 0 (qB 2 0<|qB 3 1<|qG 4 z_1<|qz 5 0<|qe) <| i1 6 (qb 2 2<|qc 167<|qn<|yo<|qb 3 2<|qc 167<|qn<|zO 3<|qe) 13 (rs 14 (q1 (.build z_1 [])<|qt 4 2 0<|qz 5 1<|qe) .ret) <| i1 15 (qr 2 1<|qh true<|qk .eql 0<|yo<|qr 2 1<|qr 3 0<|qq .neq 6<|zO 4<|qe) 25 (rs 26 (q1 (.build z_1 [])<|qt 4 2 0<|qz 5 9<|qe) .ret) <| rs 27 (qr 2 0<|qr 3 1<|q1 (.build z_1 [(0,1,.l 1),(1,1,.l 3)])<|qt 4 2 4<|qz 5 0<|qe) .ret
def F184 : F := mF 2 [.cell 4 (some 2),.t 5] none c184
attribute [go_sem] c184 F184
def l185_0 : C := .loop [] [] [] [] (rs 9 (q3 (.bin .lss (.g 8) (.g 7))<|qe) <| sq (cd 9 .skip <| .exit 0) <| sq (bk 1 (rs 10 (qm 8<|qv 5<|qe) <| rs 11 (qm 1<|qm 0<|qm 5<|qi 5<|qJ 5<|q3 (.call (.v (.l 0)) .no none [.l 4])<|qe) <| cd 16 (rs 17 (qm 5<|qv 4<|qe) .ret) .skip)) <| r1 18 (q1 (.bin .add (.g 8) (ci 1))<|qv 8<|qe))
def c185 : C := rs 0 (qz 4 0<|qe) <| sq (rs 6 (qm 0<|qH false<|q3 (.mov (ci 0))<|qe) <| bk 0 l185_0) <| rs 0 (qz 4 (-1)<|qe) .ret
def F185 : F := mF 2 [.t 4] none c185
attribute [go_sem] c185 F185
def c186 : C := rs 0 (qB 1 0<|qF 2<|qe) <| i1 3 (qr 1 0<|q1 (.bin .neq (.l 1) (.c (.str [])))<|ya<|qr 1 0<|qc 170<|qn<|zA 3<|qe) 11 (rs 0 (qF 2<|qe) .ret) <| rs 12 (qr 1 1<|q1 (.bin .eql (.l 1) (.c (.str [])))<|yo<|qr 1 1<|qc 170<|ya<|qr 1 0<|qr 1 1<|qC 192 (ls [9,11])<|qk .lss 0<|y0 3<|qa 7<|zo 3<|qv 2<|qe) .ret
def F186 : F := mF 1 [.t 2] none c186
attribute [go_sem] c186 F186
def l187_0 : C := .loop [] [] [] [] (lq 12 (qm 7<|qm 5<|qh false<|qq .lss 0<|ya<|qm 7<|qm 6<|qh false<|qq .lss 5<|zA 4<|qe) 21 0 <| sq (bk 1 (i2 24 (qm 5<|qm 7<|qi 1<|qj<|qm 6<|qm 7<|qi 1<|qj<|qQ .lss 3<|qe) 32 (rs 0 (qz 4 (-1)<|qe) .ret) <| rt 33 (qm 5<|qm 7<|qi 1<|qj<|qm 6<|qm 7<|qi 1<|qj<|qQ .gtr 3<|qe) <| cd 41 (rs 0 (qz 4 1<|qe) .ret) .skip)) <| r1 22 (qm 7<|qk .add 1<|qv 7<|qe))
def c187 : C := rs 0 (qz 4 0<|qe) <| rs 8 (qm 0<|qc 195<|qm 1<|qc 195<|qV 5 1<|qw 6<|qe) <| sq (rs 0 (qz 7 0<|qe) <| bk 0 l187_0) <| i1 42 (qm 5<|qh false<|qm 6<|qh false<|qQ .lss 1<|qe) 46 (rs 0 (qz 4 (-1)<|qe) .ret) <| i1 47 (qm 5<|qh false<|qm 6<|qh false<|qQ .gtr 1<|qe) 51 (rs 0 (qz 4 1<|qe) .ret) <| rs 0 (qz 4 0<|qe) .ret
def F187 : F := mF 2 [.t 4] none c187
attribute [go_sem] c187 F187
def l188_0 : C := .loop [] [] [] [] (lq 46 (qm 7<|qm 5<|qQ .lss 0<|qe) 48 0 <| sq (bk 1 (i1 51 (qm 0<|qm 7<|q1 (.idx (.l 0) (.l 1))<|q1 (.bin .lss (.l 2) (.c (.int .u8 128)))<|yo<|qm 0<|qm 7<|q1 (.idx (.l 5) (.l 6))<|q1 (.bin .gtr (.l 7) (.c (.int .u8 191)))<|zO 4<|qe) 60 (rs 0 (qz 2 (-1)<|qz 3 1<|qe) .ret) <| r1 61 (qm 4<|q1 (.bin .mul (ci 64) (.l 0))<|qm 0<|qm 7<|q1 (.idx (.l 2) (.l 3))<|q1 (.conv (.int .i64) (.l 4))<|qq .add 1<|qk .sub 128<|qv 4<|qe))) <| r1 49 (qm 7<|qk .add 1<|qv 7<|qe))
def c188 : C := rs 0 (qz 2 0<|qz 3 0<|qe) <| rs 8 (qm 0<|q1 (.idx (.l 0) (ci 0))<|q1 (.conv (.int .i64) (.l 1))<|qv 4<|qe) <| i1 11 (qm 4<|qK .lss 128<|qe) 12 (rs 13 (qm 4<|qv 2<|qz 3 1<|qe) .ret) <| rs 0 (qz 5 0<|qz 6 0<|qe) <| sq (rs 14 (qm 4<|qk .geq 194<|ya<|qm 4<|qk .lss 224<|zA 2<|qe) <| cd 19 (r1 20 (qm 4<|qk .sub 192<|qz 5 2<|qz 6 128<|qV 4 1<|qe)) <| rs 22 (qm 4<|qk .geq 224<|ya<|qm 4<|qk .lss 240<|zA 2<|qe) <| cd 27 (r1 28 (qm 4<|qk .sub 224<|qz 5 3<|qz 6 2048<|qV 4 1<|qe)) <| rs 30 (qm 4<|qk .geq 240<|ya<|qm 4<|qk .lss 245<|zA 2<|qe) <| cd 35 (r1 36 (qm 4<|qk .sub 240<|qz 5 4<|qz 6 65536<|qV 4 1<|qe)) .skip) <| i1 38 (qm 5<|qk .eql 0<|yo<|qm 0<|qh true<|qm 5<|qq .lss 4<|zO 2<|qe) 45 (rs 0 (qz 2 (-1)<|qz 3 1<|qe) .ret) <| sq (rs 0 (qz 7 1<|qe) <| bk 0 l188_0) <| i1 69 (qm 4<|qm 6<|qq .lss 0<|yo<|qm 4<|qk .gtr 1114111<|zo 3<|yo<|qm 4<|qk .geq 55296<|ya<|qm 4<|qk .lss 57344<|y0 7<|qa 10<|zO 7<|qe) 83 (rs 0 (qz 2 (-1)<|qz 3 1<|qe) .ret) <| rs 84 (qm 4<|qm 5<|qw 2<|qw 3<|qe) .ret
def F188 : F := mF 1 [.t 2,.t 3] none c188
attribute [go_sem] c188 F188
def c189 : C := rs 0 (qF 2<|qe) <| rs 3 (qm 0<|qk .gtr 32<|ya<|qm 0<|qk .neq 127<|za 2<|ya<|qm 0<|qk .lss 128<|yo<|qm 0<|qk .gtr 159<|y1 6<|qo 9<|za 6<|qv 2<|qe) .ret
def F189 : F := mF 1 [.t 2] none c189
attribute [go_sem] c189 F189
def c191 : C := rs 0 (qF 4<|qe) <| rs 5 (qm 0<|q1 (.bin .geq (.l 0) (.c (.int .i32 33)))<|ya<|qm 0<|q1 (.bin .lss (.l 3) (.c (.int .i32 127)))<|yo<|qm 0<|q1 (.bin .gtr (.l 6) (.c (.int .i32 159)))<|y1 2<|qo 5<|za 2<|ya<|qm 0<|q1 (.bin .neq (.l 11) (.c (.int .i32 65533)))<|yo<|qm 1<|qk .eql 3<|y1 10<|qo 13<|za 10<|qv 4<|qe) .ret
def F191 : F := mF 2 [.t 4] none c191
attribute [go_sem] c191 F191
def l192_0 : C := .loop [] [] [] [] (lq 9 (qm 0<|q1 (.bin .neq (.l 0) (.c (.str [])))<|ya<|qm 1<|q1 (.bin .neq (.l 3) (.c (.str [])))<|zA 2<|qe) 14 0 <| bk 1 (rs 16 (qm 0<|qc 190<|q2 15 (.mov (.l 1))<|qx 0<|qy 1<|qw 5<|qw 6<|qe) <| rs 21 (qm 1<|qc 190<|q2 20 (.mov (.l 1))<|qx 0<|qy 1<|qw 7<|qw 8<|qe) <| sq (bk 2 (rs 26 (qm 5<|qm 7<|qq .lss 0<|qv 25<|qe) <| cd 25 (rs 0 (qz 4 (-1)<|qe) .ret) <| rs 30 (qm 5<|qm 7<|qq .gtr 0<|qv 29<|qe) <| cd 29 (rs 0 (qz 4 1<|qe) .ret) .skip)) <| r2 33 (qm 0<|qm 6<|q1 (.sl true 0 (.l 0) (some (.l 1)) none)<|qm 1<|qm 8<|q1 (.sl true 0 (.l 3) (some (.l 4)) none)<|qV 0 2<|qw 1<|qe)))
def c192 : C := rs 0 (qz 4 0<|qe) <| sq (bk 0 l192_0) <| sq (bk 3 (rs 40 (qm 0<|q1 (.bin .neq (.l 0) (.c (.str [])))<|qv 39<|qe) <| cd 39 (rs 0 (qz 4 1<|qe) .ret) <| rs 43 (qm 1<|q1 (.bin .neq (.l 0) (.c (.str [])))<|qv 42<|qe) <| cd 42 (rs 0 (qz 4 (-1)<|qe) .ret) .skip)) <| rs 0 (qz 4 0<|qe) .ret
def F192 : F := mF 2 [.t 4] none c192
attribute [go_sem] c192 F192
def l195_0 : C := .loop [] [] [] [] (lq 6 (qm 0<|qh true<|qK .gtr 0<|qe) 8 0 <| bk 1 (rs 10 (qm 0<|qc 188<|q2 9 (.mov (.l 1))<|qx 0<|qy 1<|qw 4<|qw 5<|qe) <| i1 14 (qm 4<|qK .lss 0<|qe) 15 (r1 0 (qz 4 65533<|qe)) <| rs 16 (qm 3<|qm 4<|q1 (.mks 1 1 [.int .i64 0] [(0,.l 1)])<|q1 (.app 3 1 (.l 0) (.l 2))<|qv 3<|qe) <| r1 20 (qm 0<|qm 5<|q1 (.sl true 0 (.l 0) (some (.l 1)) none)<|qv 0<|qe)))
def c195 : C := rs 0 (qS 2 1<|qe) <| rs 3 (q3 (.mko 1)<|qe) <| sq (bk 0 l195_0) <| rs 23 (qm 3<|qv 2<|qe) .ret
def F195 : F := mF 1 [.t 2] none c195
attribute [go_sem] c195 F195
def c3 : C := rs 0 (qB 3 1<|qS 4 5<|qz 5 0<|qe) <| sq (bk 0 (rs 7 (qm 0<|qc 7<|qn<|yo<|qb 3 5<|qc 22<|qn<|zo 3<|qv 6<|qe) <| cd 6 (rs 0 (qS 4 5<|qz 5 1<|qe) .ret) <| rt 16 (qm 0<|qh false<|qk .gtr 0<|ya<|qm 0<|qm 0<|qh false<|qk .sub 1<|q1 (.iad 5 (.l 4) (.l 7))<|qg 0<|qJ 3<|qR 3 0 3<|qC 15 (ls [10,12])<|qk .geq 0<|za 3<|qv 15<|qe) <| cd 15 (rs 0 (qS 4 5<|qz 5 9<|qe) .ret) <| rs 33 (qm 0<|qh false<|qk .eql 64<|qv 32<|qe) <| cd 32 (rs 0 (qS 4 5<|qz 5 6<|qe) .ret) .skip)) <| rt 36 (qm 0<|q1 (.call (.k 23) .no (some 0) [.l 0])<|qb 3 5<|q1 (.mks 5 1 z_2 [(0,.l 2)])<|q1 (.app 37 5 (.l 1) (.l 3))<|qv 4<|qz 5 0<|qe) .ret
def F3 : F := mF 2 [.t 4,.t 5] none c3
attribute [go_sem] c3 F3
def l7_0 : C := .loop [] [] [4] [] (rs 8 (q3 (.bin .lss (.g 7) (.g 6))<|qe) <| sq (cd 8 .skip <| .exit 0) <| sq (bk 1 (rs 9 (qm 7<|q1 (.iad 5 (.g 5) (.g 7))<|qJ 5<|qG 4 z_2<|qV 3 0<|qs 4 5 3 2<|qe) <| rt 12 (qb 4 5<|qc 22<|qn<|yo<|qm 3<|qk .gtr 0<|ya<|qm 0<|qm 3<|qk .sub 1<|q1 (.iad 5 (.l 7) (.l 9))<|qg 0<|qJ 3<|qR 4 0 3<|qC 15 (ls [12,14])<|qk .geq 0<|y0 3<|qa 6<|zO 3<|qe) <| cd 30 (rs 0 (qF 2<|qe) .ret) .skip)) <| r1 31 (q1 (.bin .add (.g 7) (ci 1))<|qv 7<|qe))
def c7 : C := rs 0 (qF 2<|qe) <| sq (rs 5 (q3 (.mov (.g 0))<|qH false<|q3 (.mov (ci 0))<|qe) <| bk 0 l7_0) <| rs 32 (qm 0<|qh false<|qk .leq 64<|qv 2<|qe) .ret
def F7 : F := mF 1 [.t 2] none c7
attribute [go_sem] c7 F7
def c15 : C := rs 0 (qB 2 0<|qB 3 1<|qz 4 0<|qe) <| rt 5 (qr 2 0<|qr 3 0<|qC 26 (ls [1,3])<|qr 2 1<|qr 3 1<|qC 26 (ls [6,8])<|qr 2 2<|qr 3 2<|qC 26 (ls [11,13])<|q1 (.mks 1 3 [.int .i64 0] [(0,.l 4),(1,.l 9),(2,.l 14)])<|qc 27<|qv 4<|qe) .ret
def F15 : F := mF 2 [.t 4] none c15
attribute [go_sem] c15 F15
def c22 : C := rs 0 (qB 1 0<|qF 2<|qe) <| rs 3 (qR 1 0 3<|qc 28<|ya<|qr 1 4<|qh true<|qk .leq 16<|za 3<|ya<|qr 1 3<|qn<|yo<|qr 1 4<|q1 (.bin .eql (.l 15) (.c (.str [])))<|y1 9<|qo 13<|za 9<|qv 2<|qe) .ret
def F22 : F := mF 1 [.t 2] none c22
attribute [go_sem] c22 F22
def c24 : C := rs 0 (qB 1 0<|qF 2<|qe) <| rs 3 (qr 1 0<|qk .geq 0<|ya<|qr 1 0<|qk .leq 1099511627776<|za 3<|ya<|qr 1 1<|qk .geq 0<|za 8<|ya<|qr 1 1<|qk .leq 1048576<|za 13<|ya<|qr 1 2<|qk .geq 0<|za 18<|ya<|qr 1 2<|qk .leq 255<|za 23<|qv 2<|qe) .ret
def F24 : F := mF 1 [.t 2] none c24
attribute [go_sem] c24 F24
def c26 : C := rs 0 (qz 4 0<|qe) <| rs 7 (qm 0<|qc 31<|qv 5<|qe) <| rs 9 (qm 1<|qc 31<|qv 6<|qe) <| i1 11 (q3 (.mov (.g 5))<|qe) 11 (i1 12 (q3 (.mov (.g 6))<|qe) 12 (rs 0 (qz 4 0<|qe) .ret) <| rs 0 (qz 4 (-1)<|qe) .ret) <| i1 13 (q3 (.mov (.g 6))<|qe) 13 (rs 0 (qz 4 1<|qe) .ret) <| i1 14 (qm 0<|qm 1<|qQ .lss 0<|qe) 16 (rs 0 (qz 4 (-1)<|qe) .ret) <| i1 17 (qm 0<|qm 1<|qQ .gtr 0<|qe) 19 (rs 0 (qz 4 1<|qe) .ret) <| rs 0 (qz 4 0<|qe) .ret
def F26 : F := mF 2 [.t 4] none c26
attribute [go_sem] c26 F26
def l27_0 : C := .loop [] [] [] [] (rs 9 (q3 (.bin .lss (.g 8) (.g 7))<|qe) <| sq (cd 9 .skip <| .exit 0) <| sq (bk 1 (rs 10 (q1 (.iad 1 (.g 6) (.g 8))<|qj<|qv 5<|qe) <| rs 12 (qm 5<|qm 3<|qQ .neq 0<|qe) <| cd 14 (rs 15 (qm 5<|qv 2<|qe) .ret) .skip)) <| r1 16 (q1 (.bin .add (.g 8) (ci 1))<|qv 8<|qe))
def c27 : C := rs 0 (qz 2 0<|qe) <| rs 0 (qz 3 0<|qe) <| sq (rs 6 (q3 (.mov (.g 0))<|qH false<|q3 (.mov (ci 0))<|qe) <| bk 0 l27_0) <| rs 17 (qm 3<|qv 2<|qe) .ret
def F27 : F := mF 1 [.t 2] none c27
attribute [go_sem] c27 F27
def c28 : C := rs 0 (qB 1 0<|qF 2<|qe) <| rs 3 (qr 1 0<|qC 32 [.l 1,ci 1099511627776]<|ya<|qr 1 1<|qC 32 [.l 5,ci 1048576]<|za 3<|ya<|qr 1 2<|qC 32 [.l 10,ci 255]<|za 8<|qv 2<|qe) .ret
def F28 : F := mF 1 [.t 2] none c28
attribute [go_sem] c28 F28
def c31 : C := rs 0 (qF 2<|qe) <| rs 3 (qm 0<|qm 0<|qq .neq 0<|qv 2<|qe) .ret
def F31 : F := mF 1 [.t 2] none c31
attribute [go_sem] c31 F31
def c32 : C := rs 0 (qF 4<|qe) <| rs 5 (qm 0<|qk .geq 0<|ya<|qm 0<|qm 1<|qq .leq 3<|za 2<|qv 4<|qe) .ret
def F32 : F := mF 2 [.t 4] none c32
attribute [go_sem] c32 F32
def l81_0 : C := .loop [] [] [5] [] (rs 9 (q3 (.bin .lss (.g 8) (.g 7))<|qe) <| sq (cd 9 .skip <| .exit 0) <| sq (bk 1 (rs 10 (q1 (.iad 11 (.g 6) (.g 8))<|qJ 11<|qG 5 z_3<|qs 5 11 2 1<|qe) <| i1 12 (qr 5 0<|qm 3<|qq .leq 1<|yo<|qr 5 0<|qc 97<|qn<|zo 4<|yo<|qr 5 1<|qc 97<|qn<|zo 10<|yo<|qR 5 2 9<|qc 98<|qn<|zO 16<|qe) 33 (rs 0 (qF 2<|qe) .ret) <| r1 34 (qr 5 0<|qv 3<|qe))) <| r1 36 (q1 (.bin .add (.g 8) (ci 1))<|qv 8<|qe))
def c81 : C := rs 0 (qF 2<|qe) <| rs 0 (qz 3 0<|qe) <| sq (rs 6 (q3 (.mov (.g 0))<|qH false<|q3 (.mov (ci 0))<|qe) <| bk 0 l81_0) <| rs 37 (qm 0<|qh false<|qk .leq 8<|qv 2<|qe) .ret
def F81 : F := mF 1 [.t 2] none c81
attribute [go_sem] c81 F81
def c82 : C := rs 0 (qz 6 0<|qe) <| i1 9 (qm 0<|qc 81<|qn<|yo<|qm 1<|qc 97<|qn<|zo 3<|yo<|qm 2<|qc 97<|qn<|zO 8<|qe) 21 (rs 0 (qz 6 0<|qe) .ret) <| rs 23 (qm 0<|qm 1<|qd 84<|q2 22 (.mov (.l 2))<|qx 0<|qy 1<|qG 7 z_3<|qs 7 11 6 4<|qV 8 5<|qe) <| sq (bk 0 (rs 29 (qm 8<|qn<|yo<|qm 2<|qr 7 1<|qq .gtr 3<|zo 2<|qv 28<|qe) <| cd 28 (rs 0 (qz 6 1<|qe) .ret) <| rs 38 (qm 2<|qr 7 1<|qq .eql 0<|qv 37<|qe) <| cd 37 (rs 0 (qz 6 2<|qe) .ret) .skip)) <| rs 0 (qz 6 3<|qe) .ret
def F82 : F := mF 3 [.t 6] none c82
attribute [go_sem] c82 F82
def c84 : C := rs 0 (qG 4 z_3<|qF 5<|qe) <| i1 8 (qm 0<|qc 81<|qN<|qe) 10 (rs 11 (q1 (.build z_3 [])<|qt 4 11 0<|qF 5<|qe) .ret) <| rs 13 (qm 0<|qm 1<|qd 100<|q2 12 (.mov (.l 2))<|qx 0<|qy 1<|qw 6<|qw 7<|qe) <| i1 18 (qm 7<|qN<|qe) 19 (rs 20 (q1 (.build z_3 [])<|qt 4 11 0<|qF 5<|qe) .ret) <| rs 21 (qm 0<|qm 6<|qi 11<|qJ 11<|qt 4 11 3<|qT 5<|qe) .ret
def F84 : F := mF 2 [.cell 4 (some 11),.t 5] none c84
attribute [go_sem] c84 F84
def c88 : C := rs 0 (qB 3 1<|qS 4 11<|qz 5 0<|qe) <| i1 9 (qm 0<|qc 81<|qn<|yo<|qb 3 11<|q1 (.mks 11 1 z_3 [(0,.l 4)])<|qc 81<|qn<|zO 3<|qe) 17 (rs 0 (qS 4 11<|qz 5 1<|qe) .ret) <| rs 19 (qm 0<|qr 3 0<|qC 100 (ls [0,2])<|q2 18 (.mov (.l 3))<|qx 0<|qy 1<|qw 6<|qw 7<|qe) <| sq (bk 0 (rt 26 (qm 7<|ya<|qm 0<|qm 6<|qi 11<|qg 1<|qj<|qr 3 1<|qq .geq 6<|za 1<|qv 25<|qe) <| cd 25 (rs 0 (qS 4 11<|qz 5 9<|qe) .ret) <| rs 38 (qm 7<|qn<|ya<|qm 0<|qh false<|qk .eql 8<|za 2<|qv 37<|qe) <| cd 37 (rs 0 (qS 4 11<|qz 5 6<|qe) .ret) .skip)) <| rs 45 (qm 0<|q1 (.call (.k 102) .no (some 0) [.l 0])<|qv 8<|qe) <| i1 47 (q3 (.mov (.g 7))<|qe) 47 (rs 48 (qm 8<|qm 6<|qb 3 11<|q1 (.iad 11 (.l 0) (.l 1))<|q5 (.store (.e 46) 11 (.l 3) (.l 2))<|qe) <| rs 52 (qm 8<|qv 4<|qz 5 0<|qe) .ret) <| rs 53 (qm 8<|qm 6<|qb 3 11<|q1 (.mks 11 1 z_3 [(0,.l 2)])<|q1 (.ins 103 46 11 (.l 0) (.l 1) (.l 3))<|qv 4<|qz 5 0<|qe) .ret
def F88 : F := mF 2 [.t 4,.t 5] none c88
attribute [go_sem] c88 F88
def c97 : C := rs 0 (qF 2<|qe) <| rs 3 (qm 0<|qk .geq 1<|ya<|qm 0<|qk .leq 1099511627776<|za 2<|qv 2<|qe) .ret
def F97 : F := mF 1 [.t 2] none c97
attribute [go_sem] c97 F97
def c98 : C := rs 0 (qB 1 0<|qF 2<|qe) <| rs 3 (qr 1 0<|qk .geq 0<|ya<|qr 1 0<|qk .leq 16<|za 3<|ya<|qR 1 1 3<|qc 28<|za 8<|ya<|qr 1 5<|qh true<|qk .leq 16<|za 13<|ya<|qr 1 6<|qh false<|qk .eql 0<|za 19<|ya<|qr 1 7<|q1 (.bin .eql (.l 27) (.c (.str [])))<|za 25<|ya<|qr 1 8<|qn<|za 30<|qv 2<|qe) .ret
def F98 : F := mF 1 [.t 2] none c98
attribute [go_sem] c98 F98
def c100 : C := rs 0 (qB 3 1<|qz 4 0<|qF 5<|qe) <| rs 7 (qm 0<|q1 (.fn 105 [.g 3] [3])<|qd 106<|qv 6<|qe) <| i1 10 (qm 6<|qK .lss 0<|qe) 11 (rs 12 (qm 0<|qh false<|qv 4<|qF 5<|qe) .ret) <| rt 14 (qm 6<|qm 0<|qm 6<|qi 11<|qg 0<|qj<|q1 (.load (.v 3) none (.g 3))<|qq .eql 5<|qV 4 0<|qw 5<|qe) .ret
def F100 : F := mF 2 [.t 4,.t 5] none c100
attribute [go_sem] c100 F100
def l106_0 : C := .loop [] [] [] [] (rs 9 (q3 (.bin .lss (.g 8) (.g 7))<|qe) <| sq (cd 9 .skip <| .exit 0) <| sq (bk 1 (rs 10 (qm 8<|qv 5<|qe) <| rs 11 (qm 1<|qm 0<|qm 5<|qi 11<|qJ 11<|q3 (.call (.v (.l 0)) .no none [.l 4])<|qe) <| cd 16 (rs 17 (qm 5<|qv 4<|qe) .ret) .skip)) <| r1 18 (q1 (.bin .add (.g 8) (ci 1))<|qv 8<|qe))
def c106 : C := rs 0 (qz 4 0<|qe) <| sq (rs 6 (qm 0<|qH false<|q3 (.mov (ci 0))<|qe) <| bk 0 l106_0) <| rs 0 (qz 4 (-1)<|qe) .ret
def F106 : F := mF 2 [.t 4] none c106
attribute [go_sem] c106 F106
def c39 : C := rs 0 (qB 1 0<|qF 2<|qe) <| i1 3 (qr 1 0<|qk .lss 1<|yo<|qr 1 0<|qk .gtr 255<|zo 3<|yo<|qr 1 1<|qC 63 [.l 10,ci 0]<|qn<|zo 8<|yo<|qr 1 3<|qC 63 [.l 16,ci 0]<|qn<|zo 14<|yo<|qr 1 2<|qc 64<|qn<|zo 20<|yo<|qr 1 6<|qc 64<|qn<|zO 26<|qe) 34 (rs 0 (qF 2<|qe) .ret) <| i1 35 (qr 1 2<|qh false<|qk .gtr 0<|ya<|qr 1 2<|qr 1 0<|qC 65 (ls [6,8])<|qn<|zA 4<|qe) 46 (rs 0 (qF 2<|qe) .ret) <| i1 47 (qr 1 6<|q1 (.fn 66 [.g 1] [1])<|q3 (.call (.k 67) .no none [.l 1,.l 2])<|qe) 50 (rs 0 (qF 2<|qe) .ret) <| i1 51 (qb 1 7<|qc 68<|qN<|qe) 53 (rs 54 (qr 1 6<|qh false<|qk .eql 0<|ya<|qr 1 4<|qr 1 5<|qq .eql 6<|za 4<|qv 2<|qe) .ret) <| rs 65 (qr 1 6<|qr 1 0<|qC 65 (ls [1,3])<|ya<|qr 1 6<|qh false<|qr 1 2<|qh false<|qq .lss 8<|yo<|qr 1 4<|qr 1 5<|qq .eql 15<|y1 5<|qo 13<|za 5<|qv 2<|qe) .ret
def F39 : F := mF 1 [.t 2] none c39
attribute [go_sem] c39 F39
def c40 : C := rs 0 (qB 1 0<|qF 2<|qe) <| rs 3 (qb 1 7<|qc 39<|ya<|qb 1 7<|qc 68<|za 2<|qv 2<|qe) .ret
def F40 : F := mF 1 [.t 2] none c40
attribute [go_sem] c40 F40
def c41 : C := rs 0 (qB 1 0<|qF 2<|qe) <| rs 3 (qb 1 7<|qc 40<|ya<|qr 1 6<|qh false<|qr 1 2<|qh false<|qq .lss 5<|za 2<|qv 2<|qe) .ret
def F41 : F := mF 1 [.t 2] none c41
attribute [go_sem] c41 F41
def c43 : C := rs 0 (qG 6 z_4<|qz 7 0<|qe) <| rs 9 (qm 0<|qm 1<|qc 69<|qm 2<|qm 2<|q1 (.build z_4 [(0,1,.l 0),(1,1,.c (.int .i64 1)),(2,1,.l 2),(3,1,.c (.int .i64 1)),(4,1,.l 3),(5,1,.l 4)])<|qG 8 z_4<|qs 8 7 6 5<|qe) <| i1 15 (qb 8 7<|q3 (.call (.k 68) .no none [.l 0])<|qe) 16 (r1 17 (qm 1<|qc 69<|qf 8 6<|qs 8 1 2 1<|qe)) <| i1 20 (qm 1<|qh false<|qk .eql 0<|yo<|qb 8 7<|qc 39<|qn<|zO 3<|qe) 27 (rs 28 (q1 (.build z_4 [])<|qt 6 7 0<|qz 7 1<|qe) .ret) <| rs 29 (qb 8 7<|qt 6 7 0<|qz 7 0<|qe) .ret
def F43 : F := mF 3 [.cell 6 (some 7),.t 7] none c43
attribute [go_sem] c43 F43
def c47 : C := rs 0 (qB 2 0<|qG 4 z_4<|qS 5 7<|qz 6 0<|qe) <| sq (bk 0 (rs 8 (qb 2 7<|qc 39<|qn<|qv 7<|qe) <| cd 7 (rs 11 (q1 (.build z_4 [])<|qt 4 7 0<|qS 5 7<|qz 6 1<|qe) .ret) <| rs 13 (qb 2 7<|qc 68<|qn<|qv 12<|qe) <| cd 12 (rs 16 (q1 (.build z_4 [])<|qt 4 7 0<|qS 5 7<|qz 6 10<|qe) .ret) <| rs 18 (qb 2 7<|qc 41<|qv 17<|qe) <| cd 17 (rs 20 (q1 (.build z_4 [])<|qt 4 7 0<|qS 5 7<|qz 6 11<|qe) .ret) <| rs 22 (qr 2 3<|qk .eql 1099511627776<|qv 21<|qe) <| cd 21 (rs 25 (q1 (.build z_4 [])<|qt 4 7 0<|qS 5 7<|qz 6 6<|qe) .ret) .skip)) <| rs 26 (qr 2 3<|qk .add 1<|qf 2 3<|qs 2 1 3 2<|qe) <| rs 30 (qm 1<|qr 2 0<|q1 (.mks 1 1 [.int .i64 0] [(0,.l 2)])<|qf 2 5<|qs 2 1 4 0<|qf 2 6<|qs 2 1 6 3<|qe) <| rt 36 (qb 2 7<|qc 71<|qb 2 7<|qc 72<|qt 4 7 1<|qw 5<|qz 6 0<|qe) .ret
def F47 : F := mF 2 [.cell 4 (some 7),.t 5,.t 6] none c47
attribute [go_sem] c47 F47
def c63 : C := rs 0 (qF 4<|qe) <| rs 5 (qm 0<|qm 1<|qq .geq 0<|ya<|qm 0<|qk .leq 1099511627776<|za 3<|qv 4<|qe) .ret
def F63 : F := mF 2 [.t 4] none c63
attribute [go_sem] c63 F63
def l64_0 : C := .loop [] [] [] [] (rs 8 (q3 (.bin .lss (.g 7) (.g 6))<|qe) <| sq (cd 8 .skip <| .exit 0) <| sq (bk 1 (rs 9 (qm 7<|q1 (.iad 1 (.g 5) (.g 7))<|qj<|qV 3 0<|qw 4<|qe) <| rs 12 (qm 4<|qk .lss 1<|yo<|qm 4<|qk .gtr 255<|zo 2<|yo<|qm 0<|qm 3<|q1 (.sl false 1 (.l 7) none (some (.l 8)))<|qm 4<|qd 65<|zO 6<|qe) <| cd 24 (rs 0 (qF 2<|qe) .ret) .skip)) <| r1 25 (q1 (.bin .add (.g 7) (ci 1))<|qv 7<|qe))
def c64 : C := rs 0 (qF 2<|qe) <| sq (rs 5 (q3 (.mov (.g 0))<|qH false<|q3 (.mov (ci 0))<|qe) <| bk 0 l64_0) <| rs 26 (qm 0<|qh false<|qk .leq 8<|qv 2<|qe) .ret
def F64 : F := mF 1 [.t 2] none c64
attribute [go_sem] c64 F64
def c65 : C := rs 0 (qF 4<|qe) <| rs 5 (qm 0<|qm 1<|qd 75<|qk .geq 0<|qv 4<|qe) .ret
def F65 : F := mF 2 [.t 4] none c65
attribute [go_sem] c65 F65
def c66 : C := rs 0 (qF 3<|qe) <| rs 4 (qf 1 2<|qj<|qm 0<|qd 65<|qn<|qv 3<|qe) .ret
def F66 : F := mF 2 [.t 3] none c66
attribute [go_sem] c66 F66
def c67 : C := rs 0 (qF 4<|qe) <| rs 5 (qm 0<|qm 1<|qd 76<|qk .geq 0<|qv 4<|qe) .ret
def F67 : F := mF 2 [.t 4] none c67
attribute [go_sem] c67 F67
def c68 : C := rs 0 (qB 1 0<|qF 2<|qe) <| rt 3 (qr 1 2<|qh false<|qk .gtr 0<|ya<|qr 1 2<|q1 (.iad 1 (.l 6) (ci 0))<|qj<|qr 1 0<|qq .eql 8<|za 4<|qv 2<|qe) .ret
def F68 : F := mF 1 [.t 2] none c68
attribute [go_sem] c68 F68
def c71 : C := rs 0 (qB 1 0<|qG 2 z_4<|qe) <| i1 3 (qr 1 6<|qh false<|qr 1 2<|qh false<|qQ .eql 2<|qe) 9 (r1 10 (qr 1 5<|qf 1 4<|qs 1 1 2 1<|qe)) <| rs 13 (qb 1 7<|qt 2 7 0<|qe) .ret
def F71 : F := mF 1 [.cell 2 (some 7)] none c71
attribute [go_sem] c71 F71
def l72_0 : C := .loop [] [] [] [] (rs 10 (q3 (.bin .lss (.g 9) (.g 8))<|qe) <| sq (cd 10 .skip <| .exit 0) <| sq (bk 1 (rs 11 (q1 (.iad 1 (.g 7) (.g 9))<|qj<|qv 5<|qe) <| rs 13 (qr 1 6<|qm 5<|qd 65<|qN<|qe) <| cd 17 (r2 18 (qm 3<|qr 1 0<|qm 5<|qr 1 1<|qr 1 3<|qr 1 2<|qc 69<|qr 1 5<|q1 (.build z_5 [(0,1,.c (.int .i64 1)),(1,1,.l 2),(2,1,.l 3),(3,1,.l 5),(4,1,.l 7),(5,1,.l 10),(6,1,.l 12)])<|q1 (.mks 7 1 z_5 [(0,.l 13)])<|q1 (.app 3 7 (.l 0) (.l 14))<|qv 3<|qe)) .skip)) <| r1 34 (q1 (.bin .add (.g 9) (ci 1))<|qv 9<|qe))
def c72 : C := rs 0 (qB 1 0<|qS 2 7<|qe) <| rs 3 (q3 (.mko 7)<|qe) <| sq (rs 6 (qf 1 2<|q3 (.load (.v 1) none (.l 0))<|qH false<|q3 (.mov (ci 0))<|qe) <| bk 0 l72_0) <| rs 35 (qm 3<|qv 2<|qe) .ret
def F72 : F := mF 1 [.t 2] none c72
attribute [go_sem] c72 F72
def l75_0 : C := .loop [] [] [] [] (rs 9 (q3 (.bin .lss (.g 8) (.g 7))<|qe) <| sq (cd 9 .skip <| .exit 0) <| sq (bk 1 (rs 10 (qm 8<|qv 5<|qe) <| rs 11 (qm 1<|qm 0<|qm 5<|qi 1<|qj<|qQ .eql 0<|qe) <| cd 16 (rs 17 (qm 5<|qv 4<|qe) .ret) .skip)) <| r1 18 (q1 (.bin .add (.g 8) (ci 1))<|qv 8<|qe))
def c75 : C := rs 0 (qz 4 0<|qe) <| sq (rs 6 (qm 0<|qH false<|q3 (.mov (ci 0))<|qe) <| bk 0 l75_0) <| rs 0 (qz 4 (-1)<|qe) .ret
def F75 : F := mF 2 [.t 4] none c75
attribute [go_sem] c75 F75
def l76_0 : C := .loop [] [] [] [] (rs 9 (q3 (.bin .lss (.g 8) (.g 7))<|qe) <| sq (cd 9 .skip <| .exit 0) <| sq (bk 1 (rs 10 (qm 8<|qv 5<|qe) <| rs 11 (qm 1<|qm 0<|qm 5<|qi 1<|qj<|q3 (.call (.v (.l 0)) .no none [.l 4])<|qe) <| cd 16 (rs 17 (qm 5<|qv 4<|qe) .ret) .skip)) <| r1 18 (q1 (.bin .add (.g 8) (ci 1))<|qv 8<|qe))
def c76 : C := rs 0 (qz 4 0<|qe) <| sq (rs 6 (qm 0<|qH false<|q3 (.mov (ci 0))<|qe) <| bk 0 l76_0) <| rs 0 (qz 4 (-1)<|qe) .ret
def F76 : F := mF 2 [.t 4] none c76
attribute [go_sem] c76 F76
def c200 : C := rs 0 (qB 5 2<|qS 6 2<|qz 7 0<|qe) <| i1 14 (qm 0<|qc 203<|qn<|yo<|qm 1<|qc 170<|qn<|zO 3<|qe) 21 (rs 0 (qS 6 2<|qz 7 1<|qe) .ret) <| rs 23 (qm 0<|qm 1<|qd 220<|q2 22 (.mov (.l 2))<|qx 0<|qy 1<|qw 8<|qw 9<|qe) <| rs 0 (qS 10 5<|qe) <| i1 28 (q3 (.mov (.g 9))<|qe) 28 (r1 29 (qm 0<|qm 8<|qi 2<|qg 1<|qj<|qv 10<|qe)) <| rs 35 (qm 10<|qb 5 5<|qd 3<|q2 34 (.mov (.l 2))<|qx 0<|qy 1<|qw 11<|qw 12<|qe) <| sq (bk 0 (rs 41 (qm 12<|qk .neq 0<|qv 40<|qe) <| cd 40 (rs 43 (qm 12<|qS 6 2<|qw 7<|qe) .ret) <| rs 45 (qm 9<|qn<|ya<|qm 0<|qh false<|qk .eql 64<|za 2<|qv 44<|qe) <| cd 44 (rs 0 (qS 6 2<|qz 7 6<|qe) .ret) .skip)) <| rs 52 (qm 0<|q1 (.call (.k 221) .no (some 0) [.l 0])<|qv 13<|qe) <| i1 54 (qm 9<|qN<|qe) 55 (r1 56 (qm 13<|qm 8<|qm 1<|q1 (.build z_6 [(0,1,.l 2)])<|q1 (.mks 2 1 z_6 [(0,.l 3)])<|q1 (.ins 222 53 2 (.l 0) (.l 1) (.l 4))<|qv 13<|qe)) <| rs 62 (qm 13<|qm 8<|qm 11<|q1 (.iad 2 (.l 0) (.l 1))<|qg 1<|q5 (.store (.e 53) 1 (.l 4) (.l 2))<|qe) <| rs 67 (qm 13<|qv 6<|qz 7 0<|qe) .ret
def F200 : F := mF 3 [.t 6,.t 7] none c200
attribute [go_sem] c200 F200
def l203_0 : C := .loop [] [] [4] [] (rs 8 (q3 (.bin .lss (.g 7) (.g 6))<|qe) <| sq (cd 8 .skip <| .exit 0) <| sq (bk 1 (rs 9 (qm 7<|q1 (.iad 2 (.g 5) (.g 7))<|qJ 2<|qG 4 z_6<|qV 3 0<|qs 4 2 3 2<|qe) <| rt 12 (qr 4 0<|qc 170<|qn<|yo<|qr 4 1<|qc 7<|qn<|zo 4<|yo<|qr 4 1<|qh false<|qk .eql 0<|zo 10<|yo<|qm 3<|qk .gtr 0<|ya<|qm 0<|qm 3<|qk .sub 1<|q1 (.iad 2 (.l 20) (.l 22))<|qg 0<|qj<|qr 4 0<|qC 192 (ls [25,27])<|qk .geq 0<|y0 16<|qa 19<|zO 16<|qe) <| cd 43 (rs 0 (qF 2<|qe) .ret) .skip)) <| r1 44 (q1 (.bin .add (.g 7) (ci 1))<|qv 7<|qe))
def c203 : C := rs 0 (qF 2<|qe) <| sq (rs 5 (q3 (.mov (.g 0))<|qH false<|q3 (.mov (ci 0))<|qe) <| bk 0 l203_0) <| rs 45 (qm 0<|qh false<|qk .leq 64<|qv 2<|qe) .ret
def F203 : F := mF 1 [.t 2] none c203
attribute [go_sem] c203 F203
def c220 : C := rs 0 (qz 4 0<|qF 5<|qe) <| rs 6 (qm 0<|qm 1<|qC 225 [.l 0,.l 1,.f 226]<|qx 0<|qy 1<|qw 4<|qw 5<|qe) .ret
def F220 : F := mF 2 [.t 4,.t 5] none c220
attribute [go_sem] c220 F220
def l221_0 : C := .loop [] [] [] [] (rs 10 (q3 (.bin .lss (.g 9) (.g 8))<|qe) <| sq (cd 10 .skip <| .exit 0) <| sq (bk 1 (rs 11 (qm 9<|qv 4<|qe) <| r1 12 (qm 3<|qm 4<|qm 3<|qm 4<|qi 2<|qg 1<|q1 (.load (.e 6) none (.l 5))<|qc 23<|q1 (.iad 2 (.l 0) (.l 1))<|qg 1<|q5 (.store (.e 6) 1 (.l 9) (.l 7))<|qe))) <| r1 22 (q1 (.bin .add (.g 9) (ci 1))<|qv 9<|qe))
def c221 : C := rs 0 (qS 2 2<|qe) <| rs 5 (qm 0<|q1 (.call (.k 227) .no (some 0) [.l 0])<|qv 3<|qe) <| sq (rs 7 (qm 3<|qH false<|q3 (.mov (ci 0))<|qe) <| bk 0 l221_0) <| rs 23 (qm 3<|qv 2<|qe) .ret
def F221 : F := mF 1 [.t 2] (some 0) c221
attribute [go_sem] c221 F221
def l225_0 : C := .loop [] [] [] [] (lq 15 (qm 9<|qm 10<|qQ .lss 0<|qe) 17 0 <| bk 1 (rs 18 (qm 9<|qm 10<|qq .add 0<|q1 (.conv (.int .u64) (.l 2))<|q1 (.sh .shr (.l 3) (.c (.int .u64 1)))<|q1 (.conv (.int .i64) (.l 4))<|qv 11<|qe) <| rs 24 (qm 2<|qm 0<|qm 11<|qi 2<|qJ 2<|qm 1<|q1 (.call (.v (.l 0)) .no none [.l 4,.l 5])<|qK .lss 0<|qe) <| cd 31 (r1 32 (qm 11<|qk .add 1<|qv 9<|qe)) <| r1 34 (qm 11<|qv 10<|qe)))
def c225 : C := rs 0 (qz 6 0<|qF 7<|qe) <| rs 12 (qm 0<|qh false<|qv 8<|qe) <| rs 14 (qm 8<|qz 9 0<|qw 10<|qe) <| sq (bk 0 l225_0) <| rs 35 (qm 9<|qm 9<|qm 8<|qq .lss 1<|ya<|qm 2<|qm 0<|qm 9<|qi 2<|qJ 2<|qm 1<|q1 (.call (.v (.l 5)) .no none [.l 9,.l 10])<|qk .eql 0<|za 4<|qV 6 0<|qw 7<|qe) .ret
def F225 : F := mF 3 [.t 6,.t 7] none c225
attribute [go_sem] c225 F225
def c240 : C := rs 0 (qB 6 0<|qB 9 3<|qB 10 4<|qG 12 z_7<|qG 13 z_8<|qe) <| i1 16 (qb 6 5<|qc 249<|qn<|yo<|qm 1<|qm 2<|q1 (.mks 1 2 [.int .i64 0] [(0,.l 4),(1,.l 5)])<|qC 284 [ci 1,.l 6]<|qn<|zo 3<|yo<|qm 5<|q1 (.mks 1 1 [.int .i64 0] [(0,.l 11)])<|qC 284 [ci 0,.l 12]<|qn<|zo 10<|yo<|qb 10 3<|qc 28<|qn<|zo 16<|yo<|qb 9 12<|qc 285<|qn<|zO 21<|qe) 41 (rt 42 (qb 6 5<|qC 286 [ci 1]<|qt 12 5 0<|qt 13 9 1<|qe) .ret) <| rs 44 (qb 6 5<|qm 1<|qd 287<|qG 14 z_9<|qs 14 17 3 2<|qe) <| rs 47 (qr 9 3<|q1 (.bin .eql (.l 1) (.c (.str [])))<|ya<|qf 14 2<|qg 0<|ql 14<|q1 (.bin .eql (.l 6) (.c (.str [])))<|za 3<|yo<|qR 14 2 2<|qr 9 3<|qC 171 (ls [11,13])<|zo 9<|qv 15<|qe) <| sq (bk 0 (rs 64 (qr 14 0<|qk .eql 0<|yo<|qr 14 1<|qm 2<|qq .neq 5<|zo 3<|yo<|qm 15<|qn<|zo 9<|qv 63<|qe) <| cd 63 (rt 77 (qb 6 5<|qC 286 [ci 10]<|qt 12 5 0<|qt 13 9 1<|qe) .ret) <| rs 80 (qr 14 4<|qk .neq 1<|yo<|qb 9 12<|qc 288<|ya<|qr 14 13<|qk .neq 0<|y0 3<|qa 6<|zo 3<|qv 79<|qe) <| cd 79 (rt 92 (qb 6 5<|qC 286 [ci 11]<|qt 12 5 0<|qt 13 9 1<|qe) .ret) <| rs 95 (qb 9 12<|qc 288<|qv 94<|qe) <| cd 94 (rs 97 (qb 6 5<|qb 14 17<|qb 9 12<|qb 10 3<|qC 289 (ls [0,1,2,3])<|qx 0<|qy 1<|qt 12 5 5<|qt 13 9 6<|qe) .ret) <| rs 105 (qr 9 2<|qk .eql 4<|qv 104<|qe) <| cd 104 (rt 108 (qb 6 5<|qb 6 5<|qb 14 17<|qr 9 3<|qC 290 (ls [1,2,4])<|qt 12 5 0<|qt 13 9 5<|qe) .ret) .skip)) <| rs 114 (qb 6 5<|qb 14 17<|qb 9 12<|qm 5<|qC 291 (ls [0,1,2,3])<|qx 0<|qy 1<|qt 12 5 5<|qt 13 9 6<|qe) .ret
def F240 : F := mF 6 [.cell 12 (some 5),.cell 13 (some 9)] none c240
attribute [go_sem] c240 F240
def c244 : C := rs 0 (qB 1 0<|qF 2<|qe) <| i1 3 (qr 1 0<|qr 1 1<|q1 (.mks 1 2 [.int .i64 0] [(0,.l 1),(1,.l 3)])<|qC 284 [ci 1,.l 4]<|qn<|yo<|qr 1 13<|qr 1 14<|qr 1 15<|qr 1 16<|q1 (.mks 1 4 [.int .i64 0] [(0,.l 9),(1,.l 11),(2,.l 13),(3,.l 15)])<|qC 284 [ci 0,.l 16]<|qn<|zo 7<|yo<|qr 1 4<|qk .lss 1<|zo 20<|yo<|qr 1 4<|qk .gtr 3<|zO 25<|qe) 32 (rs 0 (qF 2<|qe) .ret) <| i1 33 (qR 1 2 2<|qc 186<|qn<|yo<|qr 1 5<|qc 203<|qn<|zo 4<|yo<|qR 1 6 3<|qc 28<|qn<|zo 10<|yo<|qR 1 9 3<|qc 28<|qn<|zo 16<|yo<|qr 1 12<|qc 81<|qn<|zO 22<|qe) 60 (rs 0 (qF 2<|qe) .ret) <| rs 61 (qr 1 5<|q1 (.fn 298 [.g 1] [1])<|qd 299<|qn<|qv 2<|qe) .ret
def F244 : F := mF 1 [.t 2] none c244
attribute [go_sem] c244 F244
def l249_0 : C := .loop [] [] [5] [] (rs 10 (q3 (.bin .lss (.g 9) (.g 8))<|qe) <| sq (cd 10 .skip <| .exit 0) <| sq (bk 1 (rs 11 (q1 (.iad 17 (.g 7) (.g 9))<|qJ 17<|qG 5 z_9<|qs 5 17 2 1<|qe) <| i1 13 (qr 5 0<|qm 3<|qq .leq 1<|yo<|qb 5 17<|qc 244<|qn<|zo 4<|yo<|qb 5 17<|qR 1 1 3<|qC 301 (ls [10,12])<|qn<|zO 9<|qe) 28 (rs 0 (qF 2<|qe) .ret) <| r1 29 (qr 5 0<|qv 3<|qe))) <| r1 31 (q1 (.bin .add (.g 9) (ci 1))<|qv 9<|qe))
def c249 : C := rs 0 (qB 1 0<|qF 2<|qe) <| rs 0 (qz 3 0<|qe) <| sq (rs 6 (qf 1 0<|q3 (.load (.v 1) none (.l 0))<|qH false<|q3 (.mov (ci 0))<|qe) <| bk 0 l249_0) <| rs 32 (qr 1 0<|qh false<|qk .leq 8<|ya<|qR 1 1 3<|qc 28<|za 4<|ya<|qr 1 4<|q1 (.mks 1 1 [.int .i64 0] [(0,.l 11)])<|qC 284 [ci 0,.l 12]<|za 9<|qv 2<|qe) .ret
def F249 : F := mF 1 [.t 2] none c249
attribute [go_sem] c249 F249
def c284 : C := rs 0 (qB 2 0<|qF 4<|qe) <| rs 5 (qm 1<|q1 (.fn 313 [.g 2] [2])<|qd 67<|qn<|qv 4<|qe) .ret
def F284 : F := mF 2 [.t 4] none c284
attribute [go_sem] c284 F284
def c285 : C := rs 0 (qB 1 0<|qF 2<|qe) <| i1 3 (qr 1 0<|qr 1 1<|q1 (.mks 1 2 [.int .i64 0] [(0,.l 1),(1,.l 3)])<|qC 284 [ci 1,.l 4]<|qn<|yo<|qr 1 2<|qk .lss 1<|zo 7<|yo<|qr 1 2<|qk .gtr 6<|zo 12<|yo<|qr 1 4<|qh true<|qk .gtr 16<|zo 17<|yo<|qr 1 6<|qh true<|qk .gtr 16<|zo 23<|yo<|qr 1 11<|qk .lss 0<|zo 29<|yo<|qr 1 11<|qk .gtr 8<|zo 34<|yo<|qR 1 7 3<|qc 28<|qn<|zo 39<|yo<|qr 1 10<|q1 (.bin .neq (.l 47) (.c (.str [])))<|ya<|qr 1 10<|qc 170<|qn<|y0 45<|qa 49<|zO 45<|qe) 58 (rs 0 (qF 2<|qe) .ret) <| i1 59 (qr 1 2<|qK .eql 6<|qe) 61 (rs 62 (qr 1 3<|q1 (.bin .eql (.l 1) (.c (.str [])))<|yo<|qr 1 3<|qc 170<|zo 3<|ya<|qr 1 11<|qk .geq 1<|za 8<|qv 2<|qe) .ret) <| rs 75 (qr 1 3<|qc 170<|qv 2<|qe) .ret
def F285 : F := mF 1 [.t 2] none c285
attribute [go_sem] c285 F285
def c287 : C := rs 0 (qB 2 0<|qG 4 z_9<|qe) <| sq (rs 8 (qb 2 5<|qm 1<|qd 314<|q2 7 (.mov (.l 2))<|qx 0<|qy 1<|qw 5<|qw 6<|qe) <| rs 13 (q3 (.mov (.g 6))<|qe) <| cd 13 (rs 14 (qr 2 0<|qm 5<|qi 17<|qJ 17<|qt 4 17 4<|qe) .ret) .skip) <| rs 19 (q1 (.build z_9 [])<|qt 4 17 0<|qe) .ret
def F287 : F := mF 2 [.cell 4 (some 17)] none c287
attribute [go_sem] c287 F287
def c288 : C := rs 0 (qB 1 0<|qF 2<|qe) <| rs 3 (qr 1 2<|qk .eql 1<|yo<|qr 1 2<|qk .eql 2<|zo 3<|yo<|qr 1 2<|qk .eql 3<|zo 8<|qv 2<|qe) .ret
def F288 : F := mF 1 [.t 2] none c288
attribute [go_sem] c288 F288
def c289 : C := rs 0 (qB 4 0<|qB 5 1<|qB 6 2<|qB 7 3<|qG 8 z_7<|qG 9 z_8<|qe) <| sq (rs 15 (qr 5 12<|qr 6 0<|qr 6 1<|q3 (.call (.k 82) .no none [.l 1,.l 3,.l 5])<|qe) <| bk 0 (rs 23 (q1 (.bin .eql (.g 21) (ci 2))<|qv 22<|qe) <| cd 22 (rs 25 (qr 5 12<|qr 6 0<|qC 84 (ls [1,3])<|q2 24 (.mov (.l 4))<|qx 0<|qy 1<|qG 10 z_3<|qs 10 11 8 6<|qD 11<|q1 (.mov (.l 7))<|qe) <| rt 32 (qb 4 5<|qR 10 2 9<|qt 8 5 0<|qt 9 9 2<|qe) .ret) <| rs 36 (q1 (.bin .eql (.g 21) (ci 3))<|qv 35<|qe) <| cd 35 (rt 37 (qb 4 5<|qC 286 [ci 10]<|qt 8 5 0<|qt 9 9 1<|qe) .ret) .skip)) <| i1 39 (qb 7 3<|qR 4 1 3<|qC 15 (ls [0,2])<|qK .leq 0<|qe) 43 (rt 44 (qb 4 5<|qC 286 [ci 1]<|qt 8 5 0<|qt 9 9 1<|qe) .ret) <| rs 46 (qb 4 5<|qb 5 17<|qr 6 3<|qC 290 (ls [0,1,3])<|qG 12 z_8<|qs 12 9 5 4<|qe) <| rs 51 (qb 7 3<|qr 12 4<|q1 (.build z_8 [(1,3,.l 0),(4,1,.l 2)])<|qG 13 z_8<|qs 13 9 4 3<|qe) <| rs 0 (qz 14 0<|qe) <| sq (bk 1 (rs 56 (qr 6 2<|qk .eql 3<|ya<|qr 12 4<|qr 6 5<|q1 (.eqb true (.l 5) (.l 7))<|yo<|qr 12 4<|ya<|qr 12 5<|qr 6 6<|qq .neq 14<|y0 9<|qa 12<|y1 3<|qo 9<|za 3<|qv 55<|qe) <| cd 55 (r2 77 (qr 12 5<|qf 13 0<|qu 13 2 15<|qf 13 5<|qs 13 1 4 1<|qe)) <| rs 82 (qr 6 2<|qk .neq 2<|qv 81<|qe) <| cd 81 (r1 86 (qr 5 5<|qr 6 3<|qb 7 3<|qr 6 4<|q1 (.build z_2 [(0,3,.l 4),(4,1,.l 6)])<|qC 200 (ls [1,3,7])<|q2 85 (.mov (.l 8))<|qx 0<|qy 1<|qf 5 5<|qs 5 1 12 10<|qV 14 11<|qe)) <| rs 99 (qr 12 4<|qv 98<|qe) <| cd 98 (r1 102 (qr 5 5<|qr 6 3<|qb 7 3<|q1 (.build z_2 [(0,3,.l 4),(3,1,.c (.bool true))])<|qC 200 (ls [1,3,5])<|q2 101 (.mov (.l 6))<|qx 0<|qy 1<|qf 5 5<|qs 5 1 10 8<|qV 14 9<|qe)) .skip)) <| i1 112 (qm 14<|qK .neq 0<|qe) 113 (rt 114 (qb 4 5<|qm 14<|qc 286<|qt 8 5 0<|qt 9 9 2<|qe) .ret) <| sq (rs 118 (qr 5 12<|qr 6 0<|qr 6 1<|qb 13 9<|q1 (.build z_3 [(0,1,.l 3),(1,1,.l 5),(2,9,.l 6)])<|qC 88 (ls [1,7])<|q2 117 (.mov (.l 8))<|qx 0<|qy 1<|qf 5 12<|qs 5 1 12 10<|qV 14 11<|qe) <| rs 130 (qm 14<|qK .neq 0<|qe) <| cd 131 (rt 132 (qb 4 5<|qm 14<|qc 286<|qt 8 5 0<|qt 9 9 2<|qe) .ret) .skip) <| rs 135 (qb 4 5<|qb 5 17<|qd 304<|qt 4 5 2<|qe) <| rs 138 (qb 7 3<|qf 4 1<|qs 4 3 1 0<|qe) <| rt 140 (qb 4 5<|qb 13 9<|qt 8 5 0<|qt 9 9 1<|qe) .ret
def F289 : F := mF 4 [.cell 8 (some 5),.cell 9 (some 9)] none c289
attribute [go_sem] c289 F289
def c290 : C := rs 0 (qB 3 0<|qB 4 1<|qG 6 z_8<|qe) <| rs 10 (qr 4 5<|qm 2<|qR 3 1 3<|qC 312 (ls [1,2,4])<|q2 9 (.mov (.l 5))<|qx 0<|qy 1<|qG 7 z_2<|qs 7 5 9 7<|qV 8 8<|qe) <| rs 18 (qR 7 0 3<|qm 8<|ya<|qr 7 3<|qn<|za 3<|qr 7 4<|q1 (.build z_8 [(1,3,.l 1),(4,1,.l 7),(5,1,.l 9)])<|qt 6 9 10<|qe) .ret
def F290 : F := mF 3 [.cell 6 (some 9)] none c290
attribute [go_sem] c290 F290
def c298 : C := rs 0 (qB 2 0<|qF 3<|qe) <| rs 4 (qf 1 2<|qJ 2<|qr 2 0<|qC 171 (ls [1,3])<|qn<|qv 3<|qe) .ret
def F298 : F := mF 2 [.t 3] none c298
attribute [go_sem] c298 F298
def c299 : C := rs 0 (qF 4<|qe) <| rs 5 (qm 0<|qm 1<|qd 315<|qk .geq 0<|qv 4<|qe) .ret
def F299 : F := mF 2 [.t 4] none c299
attribute [go_sem] c299 F299
def c301 : C := rs 0 (qB 2 0<|qB 3 1<|qF 4<|qe) <| rs 5 (qr 2 5<|q1 (.fn 316 [.g 3] [3])<|qd 299<|qn<|qv 4<|qe) .ret
def F301 : F := mF 2 [.t 4] none c301
attribute [go_sem] c301 F301
def c304 : C := rs 0 (qB 2 0<|qB 3 1<|qG 4 z_7<|qe) <| rs 8 (qb 2 5<|qr 3 0<|q1 (.call (.k 314) .borrow none [.l 0,.l 2])<|q2 7 (.mov (.l 3))<|qx 0<|qy 1<|qw 5<|qw 6<|qe) <| rs 14 (qr 2 0<|q1 (.call (.k 307) .freeze (some 0) [.l 1])<|qf 2 0<|qs 2 1 3 2<|qe) <| sq (rs 18 (q3 (.mov (.g 6))<|qe) <| cd 18 (r1 19 (qr 2 0<|qm 5<|qb 3 17<|q1 (.iad 17 (.l 1) (.l 2))<|q5 (.store (.e 16) 17 (.l 4) (.l 3))<|qe)) <| r1 24 (qr 2 0<|qm 5<|qb 3 17<|q1 (.mks 17 1 z_9 [(0,.l 3)])<|q1 (.ins 317 16 17 (.l 1) (.l 2) (.l 4))<|qf 2 0<|qs 2 1 6 5<|qe)) <| rs 31 (qb 2 5<|qt 4 5 0<|qe) .ret
def F304 : F := mF 2 [.cell 4 (some 5)] none c304
attribute [go_sem] c304 F304
def c312 : C := rs 0 (qB 5 2<|qG 6 z_2<|qF 7<|qe) <| i1 10 (qm 0<|qc 203<|qN<|qe) 12 (rs 13 (q1 (.build z_2 [])<|qt 6 5 0<|qF 7<|qe) .ret) <| rs 15 (qm 0<|qm 1<|qd 220<|q2 14 (.mov (.l 2))<|qx 0<|qy 1<|qw 8<|qw 9<|qe) <| i1 20 (qm 9<|qN<|qe) 21 (rs 22 (q1 (.build z_2 [])<|qt 6 5 0<|qF 7<|qe) .ret) <| rt 23 (qm 0<|qm 8<|qi 2<|qg 1<|qj<|qb 5 3<|qd 10<|qx 0<|qy 1<|qt 6 5 7<|qw 7<|qe) .ret
def F312 : F := mF 3 [.cell 6 (some 5),.t 7] none c312
attribute [go_sem] c312 F312
def c313 : C := rs 0 (qF 3<|qe) <| rs 4 (qm 0<|q1 (.load (.c) none (.g 1))<|qq .lss 0<|yo<|qm 0<|qk .gtr 1099511627776<|zo 3<|qv 3<|qe) .ret
def F313 : F := mF 2 [.t 3] none c313
attribute [go_sem] c313 F313
def c314 : C := rs 0 (qB 2 0<|qz 4 0<|qF 5<|qe) <| rs 6 (qr 2 0<|qm 1<|qC 319 [.l 1,.l 2,.f 320]<|qx 0<|qy 1<|qw 4<|qw 5<|qe) .ret
def F314 : F := mF 2 [.t 4,.t 5] none c314
attribute [go_sem] c314 F314
def l315_0 : C := .loop [] [] [] [] (rs 9 (q3 (.bin .lss (.g 8) (.g 7))<|qe) <| sq (cd 9 .skip <| .exit 0) <| sq (bk 1 (rs 10 (qm 8<|qv 5<|qe) <| rs 11 (qm 1<|qm 0<|qm 5<|qi 2<|qJ 2<|q3 (.call (.v (.l 0)) .no none [.l 4])<|qe) <| cd 16 (rs 17 (qm 5<|qv 4<|qe) .ret) .skip)) <| r1 18 (q1 (.bin .add (.g 8) (ci 1))<|qv 8<|qe))
def c315 : C := rs 0 (qz 4 0<|qe) <| sq (rs 6 (qm 0<|qH false<|q3 (.mov (ci 0))<|qe) <| bk 0 l315_0) <| rs 0 (qz 4 (-1)<|qe) .ret
def F315 : F := mF 2 [.t 4] none c315
attribute [go_sem] c315 F315
def c316 : C := rs 0 (qB 2 0<|qF 3<|qe) <| rt 4 (qr 2 1<|qr 2 1<|qh false<|qk .sub 1<|q1 (.iad 5 (.l 1) (.l 5))<|qg 0<|qJ 3<|q1 (.load (.c) (some 3) (.g 1))<|qd 15<|qk .gtr 0<|qv 3<|qe) .ret
def F316 : F := mF 2 [.t 3] none c316
attribute [go_sem] c316 F316
def l319_0 : C := .loop [] [] [] [] (lq 15 (qm 9<|qm 10<|qQ .lss 0<|qe) 17 0 <| bk 1 (rs 18 (qm 9<|qm 10<|qq .add 0<|q1 (.conv (.int .u64) (.l 2))<|q1 (.sh .shr (.l 3) (.c (.int .u64 1)))<|q1 (.conv (.int .i64) (.l 4))<|qv 11<|qe) <| rs 24 (qm 2<|qm 0<|qm 11<|qi 17<|qJ 17<|qm 1<|q1 (.call (.v (.l 0)) .no none [.l 4,.l 5])<|qK .lss 0<|qe) <| cd 31 (r1 32 (qm 11<|qk .add 1<|qv 9<|qe)) <| r1 34 (qm 11<|qv 10<|qe)))
def c319 : C := rs 0 (qz 6 0<|qF 7<|qe) <| rs 12 (qm 0<|qh false<|qv 8<|qe) <| rs 14 (qm 8<|qz 9 0<|qw 10<|qe) <| sq (bk 0 l319_0) <| rs 35 (qm 9<|qm 9<|qm 8<|qq .lss 1<|ya<|qm 2<|qm 0<|qm 9<|qi 17<|qJ 17<|qm 1<|q1 (.call (.v (.l 5)) .no none [.l 9,.l 10])<|qk .eql 0<|za 4<|qV 6 0<|qw 7<|qe) .ret
def F319 : F := mF 3 [.t 6,.t 7] none c319
attribute [go_sem] c319 F319
def c320 : C := rs 0 (qB 2 0<|qz 4 0<|qe) <| rs 5 (qr 2 0<|qm 1<|qq .sub 1<|qv 4<|qe) .ret
def F320 : F := mF 2 [.t 4] none c320
attribute [go_sem] c320 F320
def l114_0 : C := .loop [] [] [] [] (lq 7 (qm 3<|qm 0<|qh false<|qQ .lss 0<|qe) 10 0 <| sq (bk 1 (i1 13 (qm 0<|qm 3<|qi 5<|qg 0<|qj<|qk .lss 1<|yo<|qm 0<|qm 3<|qi 5<|qg 0<|qj<|qk .gtr 1099511627776<|zo 6<|yo<|qm 0<|qm 3<|qi 5<|qg 1<|qj<|qk .lss 1<|zo 14<|yo<|qm 0<|qm 3<|qi 5<|qg 1<|qj<|qk .gtr 20<|zo 22<|yo<|qm 0<|qm 3<|qi 5<|qg 2<|qJ 3<|qc 24<|qn<|zO 30<|qe) 51 (rs 0 (qF 2<|qe) .ret) <| rt 52 (qm 3<|qk .gtr 0<|ya<|qm 0<|qm 3<|qk .sub 1<|q1 (.iad 5 (.l 3) (.l 5))<|qg 0<|qj<|qm 0<|qm 3<|qi 5<|qg 0<|qj<|qq .geq 8<|zA 2<|qe) <| cd 67 (rs 0 (qF 2<|qe) .ret) .skip)) <| r1 11 (qm 3<|qk .add 1<|qv 3<|qe))
def c114 : C := rs 0 (qF 2<|qe) <| i1 4 (qm 0<|qh false<|qK .gtr 4<|qe) 6 (rs 0 (qF 2<|qe) .ret) <| sq (rs 0 (qz 3 0<|qe) <| bk 0 l114_0) <| rs 0 (qT 2<|qe) .ret
def F114 : F := mF 1 [.t 2] none c114
attribute [go_sem] c114 F114
def l116_0 : C := .loop [] [] [] [] (lq 11 (qm 5<|qm 0<|qh false<|qQ .lss 0<|qe) 14 0 <| sq (bk 1 (rt 17 (qm 0<|qm 5<|qi 5<|qJ 5<|qm 1<|qm 5<|qi 5<|qJ 5<|q3 (.eqa true [.i,.i,.i,.i,.i] (.l 3) (.l 7))<|qe) <| cd 25 (rs 0 (qF 4<|qe) .ret) .skip)) <| r1 15 (qm 5<|qk .add 1<|qv 5<|qe))
def c116 : C := rs 0 (qF 4<|qe) <| i1 6 (qm 0<|qh false<|qm 1<|qh false<|qQ .neq 1<|qe) 10 (rs 0 (qF 4<|qe) .ret) <| sq (rs 0 (qz 5 0<|qe) <| bk 0 l116_0) <| rs 0 (qT 4<|qe) .ret
def F116 : F := mF 2 [.t 4] none c116
attribute [go_sem] c116 F116
def l126_0 : C := .loop [] [] [5] [] (rs 9 (q3 (.bin .lss (.g 8) (.g 7))<|qe) <| sq (cd 9 .skip <| .exit 0) <| sq (bk 1 (rs 10 (q1 (.iad 5 (.g 6) (.g 8))<|qJ 5<|qG 5 z_10<|qs 5 5 2 1<|qe) <| i1 12 (qr 5 0<|qm 3<|qq .leq 1<|yo<|qr 5 0<|qk .gtr 1099511627776<|zo 4<|yo<|qr 5 1<|qk .lss 1<|zo 9<|yo<|qr 5 1<|qk .gtr 20<|zo 14<|yo<|qR 5 2 3<|qc 28<|qn<|zO 19<|qe) 36 (rs 0 (qF 2<|qe) .ret) <| r1 37 (qr 5 0<|qv 3<|qe))) <| r1 39 (q1 (.bin .add (.g 8) (ci 1))<|qv 8<|qe))
def c126 : C := rs 0 (qF 2<|qe) <| rs 0 (qz 3 0<|qe) <| sq (rs 6 (q3 (.mov (.g 0))<|qH false<|q3 (.mov (ci 0))<|qe) <| bk 0 l126_0) <| rs 40 (qm 0<|qh false<|qk .leq 4<|qv 2<|qe) .ret
def F126 : F := mF 1 [.t 2] none c126
attribute [go_sem] c126 F126
def l324_0 : C := .loop [] [] [5] [] (rs 25 (q3 (.bin .lss (.g 24) (.g 23))<|qe) <| sq (cd 25 .skip <| .exit 0) <| sq (bk 1 (rs 26 (q1 (.iad 3 (.g 22) (.g 24))<|qJ 3<|qG 5 z_11<|qs 5 3 2 1<|qe) <| r1 28 (qr 3 1<|qb 5 3<|q1 (.mks 3 1 z_11 [(0,.l 2)])<|q1 (.app 32 3 (.l 1) (.l 3))<|qf 3 1<|qs 3 1 5 4<|qe))) <| r1 34 (q1 (.bin .add (.g 24) (ci 1))<|qv 24<|qe))
def l324_1 : C := .loop [] [] [7] [] (rs 39 (q3 (.bin .lss (.g 38) (.g 37))<|qe) <| sq (cd 39 .skip <| .exit 2) <| sq (bk 3 (rs 40 (q1 (.iad 7 (.g 36) (.g 38))<|qJ 7<|qG 7 z_12<|qs 7 7 2 1<|qe) <| r1 42 (qr 3 28<|qb 7 7<|q1 (.mks 7 1 z_12 [(0,.l 2)])<|q1 (.app 46 7 (.l 1) (.l 3))<|qf 3 28<|qs 3 1 5 4<|qe))) <| r1 48 (q1 (.bin .add (.g 38) (ci 1))<|qv 38<|qe))
def c324 : C := rs 0 (qB 1 0<|qG 2 z_13<|qe) <| rs 8 (qr 1 0<|qr 1 2<|qr 1 3<|qr 1 4<|qR 1 5 3<|qR 1 8 20<|q1 (.build [.slice 5 [],.nslice 3,.int .i64 0,.slice 5 [],.slice 3 [],.int .i64 0,.int .i64 0,.int .i64 0,.int .i64 0,.int .i64 0,.int .i64 0,.int .i64 0,.int .i64 0,.int .i64 0,.int .i64 0,.int .i64 0,.str [],.slice 1 [],.int .i64 0,.int .i64 0,.int .i64 0,.str [],.str [],.slice 1 [],.int .i64 0,.int .i64 0,.int .i64 0,.slice 1 [],.nslice 7] [(0,1,.l 1),(2,1,.l 3),(3,1,.l 5),(4,1,.l 7),(5,3,.l 9),(8,20,.l 11)])<|qG 3 z_14<|qs 3 29 13 12<|qe) <| sq (rs 21 (qf 1 1<|q3 (.load (.v 1) none (.l 0))<|qH false<|q3 (.mov (ci 0))<|qe) <| bk 0 l324_0) <| sq (rs 35 (qf 1 28<|q3 (.load (.v 1) none (.l 0))<|qH false<|q3 (.mov (ci 0))<|qe) <| bk 2 l324_1) <| rs 49 (qb 3 29<|qt 2 29 0<|qe) .ret
def F324 : F := mF 1 [.cell 2 (some 29)] none c324
attribute [go_sem] c324 F324
def c325 : C := rs 0 (qB 1 0<|qF 2<|qe) <| rs 3 (qr 1 0<|qh false<|qk .leq 40<|ya<|qr 1 1<|qh false<|qk .leq 40<|za 4<|ya<|qr 1 4<|qh false<|qk .leq 40<|za 10<|ya<|qr 1 3<|qh false<|qk .leq 40<|za 16<|ya<|qr 1 28<|qh false<|qk .leq 40<|za 22<|ya<|qf 1 8<|qg 9<|ql 1<|qh false<|qk .leq 200<|za 28<|ya<|qf 1 8<|qg 15<|ql 1<|qh false<|qk .leq 100<|za 35<|ya<|qf 1 8<|qg 19<|ql 1<|qh false<|qk .leq 40<|za 42<|ya<|qr 1 1<|qc 344<|za 49<|qv 2<|qe) .ret
def F325 : F := mF 1 [.t 2] none c325
attribute [go_sem] c325 F325
def l328_0 : C := .loop [] [] [] [] (rs 58 (q3 (.bin .lss (.g 57) (ci 3))<|qe) <| sq (cd 58 .skip <| .exit 0) <| sq (bk 1 (rs 59 (qm 57<|qv 3<|qe) <| rs 60 (qr 1 1<|qm 3<|qi 3<|qg 0<|qj<|q1 (.mks 1 1 [.int .i64 0] [(0,.l 5)])<|qC 347 [ci 1,.l 6]<|qn<|yo<|qr 1 1<|qm 3<|qi 3<|qg 1<|qj<|qc 348<|qn<|zo 9<|yo<|qr 1 4<|qm 3<|qi 3<|qJ 3<|qc 28<|qn<|zO 19<|qe) <| cd 87 (rs 0 (qF 2<|qe) .ret) .skip)) <| r1 88 (q1 (.bin .add (.g 57) (ci 1))<|qv 57<|qe))
def l328_1 : C := .loop [] [] [6] [] (rs 93 (q3 (.bin .lss (.g 92) (.g 91))<|qe) <| sq (cd 93 .skip <| .exit 2) <| sq (bk 3 (rs 94 (q1 (.iad 7 (.g 90) (.g 92))<|qJ 7<|qG 6 z_12<|qs 6 7 2 1<|qe) <| i1 96 (qr 6 0<|qm 4<|qq .leq 1<|yo<|qr 6 0<|qk .gtr 8<|zo 4<|yo<|qr 6 1<|qr 6 2<|q1 (.mks 1 2 [.int .i64 0] [(0,.l 11),(1,.l 13)])<|qC 347 [ci 0,.l 14]<|qn<|zo 9<|yo<|qR 6 3 3<|qc 28<|qn<|zo 18<|yo<|qr 6 6<|qk .lss 0<|zo 24<|yo<|qr 6 6<|qk .gtr 16<|zO 29<|qe) 129 (rs 0 (qF 2<|qe) .ret) <| r1 130 (qr 6 0<|qv 4<|qe))) <| r1 132 (q1 (.bin .add (.g 92) (ci 1))<|qv 92<|qe))
def c328 : C := rs 0 (qB 1 0<|qF 2<|qe) <| i1 7 (qr 1 0<|qc 141<|qn<|yo<|qr 1 3<|qc 126<|qn<|zo 4<|yo<|qr 1 1<|qh false<|qk .neq 3<|zo 10<|yo<|qr 1 4<|qh false<|qk .neq 3<|zo 16<|yo<|qr 1 2<|qk .lss 2<|zo 22<|yo<|qr 1 2<|qk .gtr 1099511627776<|zo 27<|yo<|qR 1 5 3<|qc 28<|qn<|zo 32<|yo<|qR 1 8 20<|qc 346<|qn<|zo 38<|yo<|qr 1 28<|qh false<|qk .gtr 8<|zO 44<|qe) 56 (rs 0 (qF 2<|qe) .ret) <| sq (rs 0 (qz 57 0<|qe) <| bk 0 l328_0) <| rs 0 (qz 4 0<|qe) <| sq (rs 89 (qf 1 28<|q3 (.load (.v 1) none (.l 0))<|qH false<|q3 (.mov (ci 0))<|qe) <| bk 2 l328_1) <| rs 0 (qT 2<|qe) .ret
def F328 : F := mF 1 [.t 2] none c328
attribute [go_sem] c328 F328
def l329_0 : C := .loop [] [] [] [] (lq 57 (qm 3<|qK .lss 3<|qe) 58 0 <| sq (bk 1 (rs 61 (qr 1 1<|qm 3<|qi 3<|qg 0<|qj<|qk .lss 1<|yo<|qr 1 1<|qm 3<|qi 3<|qg 0<|qj<|qc 349<|qn<|zo 7<|yo<|qr 1 1<|qm 3<|qi 3<|qg 1<|qj<|qc 351<|qn<|zo 17<|yo<|qr 1 4<|qm 3<|qi 3<|qJ 3<|qc 24<|qn<|zO 27<|qe) <| cd 96 (rs 0 (qF 2<|qe) .ret) .skip)) <| r1 59 (qm 3<|qk .add 1<|qv 3<|qe))
def l329_1 : C := .loop [] [] [5] [] (lq 97 (qm 4<|qr 1 28<|qh false<|qQ .lss 0<|qe) 101 2 <| sq (bk 3 (rs 104 (qr 1 28<|qm 4<|qi 7<|qJ 7<|qG 5 z_12<|qs 5 7 5 4<|qe) <| rt 109 (qr 5 0<|qk .lss 1<|yo<|qr 5 0<|qk .gtr 8<|zo 3<|yo<|qm 4<|qk .gtr 0<|ya<|qr 1 28<|qm 4<|qk .sub 1<|q1 (.iad 7 (.l 13) (.l 15))<|qg 0<|qj<|qr 5 0<|qq .geq 18<|y0 8<|qa 11<|zo 8<|yo<|qr 5 1<|qc 349<|qn<|zo 24<|yo<|qr 5 2<|qc 349<|qn<|zo 30<|yo<|qR 5 3 3<|qc 24<|qn<|zo 36<|yo<|qr 5 6<|qk .lss 0<|zo 42<|yo<|qr 5 6<|qk .gtr 16<|zO 47<|qe) <| cd 160 (rs 0 (qF 2<|qe) .ret) .skip)) <| r1 102 (qm 4<|qk .add 1<|qv 4<|qe))
def c329 : C := rs 0 (qB 1 0<|qF 2<|qe) <| i1 6 (qr 1 0<|qc 147<|qn<|yo<|qr 1 3<|qc 114<|qn<|zo 4<|yo<|qr 1 1<|qh false<|qk .neq 3<|zo 10<|yo<|qr 1 4<|qh false<|qk .neq 3<|zo 16<|yo<|qr 1 2<|qk .lss 2<|zo 22<|yo<|qr 1 2<|qc 349<|qn<|zo 27<|yo<|qR 1 5 3<|qc 24<|qn<|zo 33<|yo<|qR 1 8 20<|qc 350<|qn<|zo 39<|yo<|qr 1 28<|qh false<|qk .gtr 8<|zO 45<|qe) 56 (rs 0 (qF 2<|qe) .ret) <| sq (rs 0 (qz 3 0<|qe) <| bk 0 l329_0) <| sq (rs 0 (qz 4 0<|qe) <| bk 2 l329_1) <| rs 0 (qT 2<|qe) .ret
def F329 : F := mF 1 [.t 2] none c329
attribute [go_sem] c329 F329
def l332_0 : C := .loop [] [] [] [] (lq 33 (qm 5<|qr 2 1<|qh false<|qQ .lss 0<|qe) 37 0 <| sq (bk 1 (rt 40 (qr 2 1<|qm 5<|qi 3<|qg 0<|qj<|qr 3 1<|qm 5<|qi 3<|qg 0<|qj<|qq .neq 5<|yo<|qr 2 1<|qm 5<|qi 3<|qg 2<|qj<|qr 3 1<|qm 5<|qi 3<|qg 2<|qj<|q1 (.eqb true (.l 19) (.l 25))<|zo 13<|yo<|qr 2 1<|qm 5<|qi 3<|qg 1<|qj<|qr 3 1<|qm 5<|qi 3<|qg 1<|qj<|qC 353 (ls [34,40])<|qn<|zO 28<|qe) <| cd 83 (rs 0 (qF 4<|qe) .ret) .skip)) <| r1 38 (qm 5<|qk .add 1<|qv 5<|qe))
def l332_1 : C := .loop [] [] [] [] (lq 84 (qm 6<|qr 2 4<|qh false<|qQ .lss 0<|qe) 88 2 <| sq (bk 3 (rt 91 (qr 2 4<|qm 6<|qi 3<|qJ 3<|qr 3 4<|qm 6<|qi 3<|qJ 3<|q3 (.eqa true [.i,.i,.i] (.l 4) (.l 9))<|qe) <| cd 101 (rs 0 (qF 4<|qe) .ret) .skip)) <| r1 89 (qm 6<|qk .add 1<|qv 6<|qe))
def l332_2 : C := .loop [] [] [] [] (lq 102 (qm 7<|qr 2 28<|qh false<|qQ .lss 0<|qe) 106 4 <| sq (bk 5 (rt 109 (qr 2 28<|qm 7<|qi 7<|qJ 7<|qr 3 28<|qm 7<|qi 7<|qJ 7<|q3 (.eqa true [.i,.i,.i,.i,.i,.i,.i] (.l 4) (.l 9))<|qe) <| cd 119 (rs 0 (qF 4<|qe) .ret) .skip)) <| r1 107 (qm 7<|qk .add 1<|qv 7<|qe))
def c332 : C := rs 0 (qB 2 0<|qB 3 1<|qF 4<|qe) <| i1 8 (qr 2 1<|qh false<|qr 3 1<|qh false<|qq .neq 2<|yo<|qr 2 4<|qh false<|qr 3 4<|qh false<|qq .neq 10<|zo 7<|yo<|qr 2 28<|qh false<|qr 3 28<|qh false<|qq .neq 19<|zO 16<|qe) 32 (rs 0 (qF 4<|qe) .ret) <| sq (rs 0 (qz 5 0<|qe) <| bk 0 l332_0) <| sq (rs 0 (qz 6 0<|qe) <| bk 2 l332_1) <| sq (rs 0 (qz 7 0<|qe) <| bk 4 l332_2) <| rs 120 (qr 2 0<|qr 3 0<|qC 153 (ls [1,3])<|ya<|qr 2 2<|qr 3 2<|qq .eql 7<|za 5<|ya<|qr 2 3<|qr 3 3<|qC 116 (ls [14,16])<|za 12<|ya<|qR 2 5 3<|qR 3 5 3<|q1 (.eqa false [.i,.i,.i] (.l 21) (.l 23))<|za 19<|ya<|qR 2 8 20<|qR 3 8 20<|qC 354 (ls [28,30])<|za 26<|qv 4<|qe) .ret
def F332 : F := mF 2 [.t 4] none c332
attribute [go_sem] c332 F332
def c341 : C := rs 0 (qB 1 0<|qF 2<|qe) <| i1 3 (qr 1 0<|qk .lss 1<|yo<|qr 1 0<|qk .gtr 37<|zo 3<|yo<|qf 1 25<|qg 0<|ql 1<|qk .lss 0<|zo 8<|yo<|qf 1 25<|qg 0<|ql 1<|qk .gtr 16<|zo 14<|yo<|qf 1 25<|qg 6<|ql 1<|qh false<|qk .gtr 8<|zo 20<|yo<|qr 1 34<|qh false<|qk .gtr 8<|zo 27<|yo<|qr 1 35<|qh false<|qk .gtr 8<|zO 33<|qe) 41 (rs 0 (qF 2<|qe) .ret) <| i1 42 (qb 1 36<|qc 366<|q3 (.call (.k 67) .no none [.l 1,.f 367])<|qe) 44 (rs 0 (qF 2<|qe) .ret) <| rs 45 (qR 1 9 3<|qc 28<|ya<|qf 1 13<|qg 7<|q1 (.load (.v 1) (some 3) (.l 5))<|qc 28<|za 3<|ya<|qf 1 25<|qg 1<|q1 (.load (.v 1) (some 3) (.l 11))<|qc 28<|za 9<|qv 2<|qe) .ret
def F341 : F := mF 1 [.t 2] none c341
attribute [go_sem] c341 F341
def l344_0 : C := .loop [] [] [] [] (lq 4 (qm 3<|qm 0<|qh false<|qQ .lss 0<|qe) 7 0 <| sq (bk 1 (rs 10 (qm 0<|qm 3<|qi 3<|qg 1<|qj<|qh false<|qK .gtr 40<|qe) <| cd 16 (rs 0 (qF 2<|qe) .ret) .skip)) <| r1 8 (qm 3<|qk .add 1<|qv 3<|qe))
def c344 : C := rs 0 (qF 2<|qe) <| sq (rs 0 (qz 3 0<|qe) <| bk 0 l344_0) <| rs 0 (qT 2<|qe) .ret
def F344 : F := mF 1 [.t 2] none c344
attribute [go_sem] c344 F344
def c345 : C := rs 0 (qS 2 1<|qe) <| i1 3 (qm 0<|qc 368<|qN<|qe) 5 (rs 0 (qS 2 1<|qe) .ret) <| rs 6 (qm 0<|qm 0<|qk .rem 3<|qk .add 1<|q1 (.mks 1 2 [.int .i64 0] [(0,.l 0),(1,.l 3)])<|qv 2<|qe) .ret
def F345 : F := mF 1 [.t 2] none c345
attribute [go_sem] c345 F345
def c346 : C := rs 0 (qB 1 0<|qF 2<|qe) <| i1 3 (qr 1 0<|qk .lss 0<|yo<|qr 1 0<|qk .gtr 5<|zo 3<|yo<|qr 1 1<|qk .lss 0<|zo 8<|yo<|qr 1 1<|qk .gtr 7<|zo 13<|yo<|qr 1 2<|qr 1 3<|qr 1 4<|qr 1 7<|qr 1 10<|qr 1 11<|qr 1 12<|q1 (.mks 1 7 [.int .i64 0] [(0,.l 20),(1,.l 22),(2,.l 24),(3,.l 26),(4,.l 28),(5,.l 30),(6,.l 32)])<|qC 347 [ci 0,.l 33]<|qn<|zo 18<|yo<|qr 1 15<|qC 347 [ci 0,.l 39]<|qn<|zo 37<|yo<|qR 1 16 3<|qc 28<|qn<|zO 43<|qe) 51 (rs 0 (qF 2<|qe) .ret) <| i1 52 (qr 1 5<|qk .lss 0<|yo<|qr 1 5<|qk .gtr 3<|zo 3<|yo<|qr 1 6<|qk .lss 0<|zo 8<|yo<|qr 1 6<|qk .gtr 3<|zo 13<|yo<|qr 1 19<|qh false<|qk .gtr 0<|ya<|qr 1 19<|qc 348<|qn<|y0 18<|qa 23<|zO 18<|qe) 81 (rs 0 (qF 2<|qe) .ret) <| sq (rs 82 (qf 1 0<|q3 (.load (.v 1) none (.l 0))<|qe) <| bk 0 (rs 85 (q1 (.bin .eql (.g 83) (ci 5))<|qv 84<|qe) <| cd 84 (rs 86 (qr 1 5<|qk .gtr 0<|ya<|qr 1 19<|qh false<|qk .gtr 0<|za 3<|qv 2<|qe) .ret) <| rs 96 (q1 (.bin .eql (.g 83) (ci 1))<|qv 95<|qe) <| cd 95 (rs 97 (qr 1 5<|qk .gtr 0<|ya<|qr 1 6<|qk .gtr 0<|za 3<|qv 2<|qe) .ret) <| sq (rs 106 (q1 (.bin .eql (.g 83) (ci 2))<|qv 105<|qe) <| cd 105 .skip <| r1 107 (q1 (.bin .eql (.g 83) (ci 3))<|qv 105<|qe)) <| cd 105 (rs 108 (qr 1 5<|qk .gtr 0<|qv 2<|qe) .ret) .skip)) <| rs 0 (qT 2<|qe) .ret
def F346 : F := mF 1 [.t 2] none c346
attribute [go_sem] c346 F346
def c347 : C := rs 0 (qB 2 0<|qF 4<|qe) <| rs 5 (qm 1<|q1 (.fn 369 [.g 2] [2])<|qd 67<|qn<|qv 4<|qe) .ret
def F347 : F := mF 2 [.t 4] none c347
attribute [go_sem] c347 F347
def l348_0 : C := .loop [] [] [] [] (rs 8 (q3 (.bin .lss (.g 7) (.g 6))<|qe) <| sq (cd 8 .skip <| .exit 0) <| sq (bk 1 (rs 9 (qm 7<|q1 (.iad 1 (.g 5) (.g 7))<|qj<|qV 3 0<|qw 4<|qe) <| rs 12 (qm 4<|qk .lss 1<|yo<|qm 4<|qk .gtr 3<|zo 2<|yo<|qm 0<|qm 3<|q1 (.sl false 1 (.l 7) none (some (.l 8)))<|qm 4<|qd 65<|zO 6<|qe) <| cd 24 (rs 0 (qF 2<|qe) .ret) .skip)) <| r1 25 (q1 (.bin .add (.g 7) (ci 1))<|qv 7<|qe))
def c348 : C := rs 0 (qF 2<|qe) <| sq (rs 5 (q3 (.mov (.g 0))<|qH false<|q3 (.mov (ci 0))<|qe) <| bk 0 l348_0) <| rs 26 (qm 0<|qh false<|qk .gtr 0<|qv 2<|qe) .ret
def F348 : F := mF 1 [.t 2] none c348
attribute [go_sem] c348 F348
def c349 : C := rs 0 (qF 2<|qe) <| rs 3 (qm 0<|qk .geq 0<|ya<|qm 0<|qk .leq 1099511627776<|za 2<|qv 2<|qe) .ret
def F349 : F := mF 1 [.t 2] none c349
attribute [go_sem] c349 F349
def l350_0 : C := .loop [] [] [] [] (lq 70 (qm 3<|qr 1 15<|qh false<|qQ .lss 0<|qe) 74 0 <| sq (bk 1 (rs 77 (qr 1 15<|qm 3<|qi 1<|qj<|qc 349<|qN<|qe) <| cd 83 (rs 0 (qF 2<|qe) .ret) .skip)) <| r1 75 (qm 3<|qk .add 1<|qv 3<|qe))
def c350 : C := rs 0 (qB 1 0<|qF 2<|qe) <| i1 4 (qr 1 0<|qk .lss 0<|yo<|qr 1 0<|qk .gtr 5<|zo 3<|yo<|qr 1 1<|qk .lss 0<|zo 8<|yo<|qr 1 1<|qk .gtr 7<|zo 13<|yo<|qr 1 2<|qc 349<|qn<|zo 18<|yo<|qr 1 3<|qc 349<|qn<|zo 24<|yo<|qr 1 4<|qc 349<|qn<|zo 30<|yo<|qr 1 7<|qc 349<|qn<|zo 36<|yo<|qr 1 10<|qc 349<|qn<|zo 42<|yo<|qr 1 11<|qc 349<|qn<|zo 48<|yo<|qr 1 12<|qc 349<|qn<|zo 54<|yo<|qR 1 16 3<|qc 24<|qn<|zO 60<|qe) 69 (rs 0 (qF 2<|qe) .ret) <| sq (rs 0 (qz 3 0<|qe) <| bk 0 l350_0) <| i1 84 (qr 1 5<|qk .lss 0<|yo<|qr 1 5<|qk .gtr 3<|zo 3<|yo<|qr 1 6<|qk .lss 0<|zo 8<|yo<|qr 1 6<|qk .gtr 3<|zo 13<|yo<|qr 1 19<|qh false<|qk .gtr 0<|ya<|qr 1 19<|qc 351<|qn<|y0 18<|qa 23<|zO 18<|qe) 113 (rs 0 (qF 2<|qe) .ret) <| i1 114 (qr 1 0<|qk .eql 5<|ya<|qr 1 19<|qh false<|qk .eql 0<|za 3<|yo<|qr 1 0<|qk .eql 1<|ya<|qr 1 6<|qk .eql 0<|y0 9<|qa 13<|zO 9<|qe) 132 (rs 0 (qF 2<|qe) .ret) <| rs 133 (qr 1 0<|qk .eql 0<|yo<|qr 1 0<|qk .eql 4<|zo 3<|yo<|qr 1 5<|qk .gtr 0<|zo 8<|qv 2<|qe) .ret
def F350 : F := mF 1 [.t 2] none c350
attribute [go_sem] c350 F350
def l351_0 : C := .loop [] [] [] [] (lq 6 (qm 4<|qm 0<|qh false<|qQ .lss 0<|qe) 9 0 <| sq (bk 1 (i1 12 (qm 0<|qm 4<|qi 1<|qj<|qk .lss 1<|yo<|qm 0<|qm 4<|qi 1<|qj<|qk .gtr 3<|zo 5<|yo<|qm 0<|qm 4<|qi 1<|qj<|q1 (.iada 1 4 (.g 3) (.l 16))<|ql 3<|zO 12<|qe) 31 (rs 0 (qF 2<|qe) .ret) <| r1 32 (qm 0<|qm 4<|qi 1<|qj<|q1 (.iada 1 4 (.g 3) (.l 3))<|q5 (.store (.v 3) 1 (.l 4) (cb true))<|qe))) <| r1 10 (qm 4<|qk .add 1<|qv 4<|qe))
def c351 : C := rs 0 (qF 2<|qe) <| rs 5 (q1 (.build z_15 [])<|qG 3 z_15<|qs 3 4 1 0<|qe) <| sq (rs 0 (qz 4 0<|qe) <| bk 0 l351_0) <| rs 37 (qm 0<|qh false<|qk .gtr 0<|qv 2<|qe) .ret
def F351 : F := mF 1 [.t 2] none c351
attribute [go_sem] c351 F351
def l353_0 : C := .loop [] [] [] [] (lq 11 (qm 5<|qm 0<|qh false<|qQ .lss 0<|qe) 14 0 <| sq (bk 1 (rt 17 (qm 0<|qm 5<|qi 1<|qj<|qm 1<|qm 5<|qi 1<|qj<|qQ .neq 3<|qe) <| cd 25 (rs 0 (qF 4<|qe) .ret) .skip)) <| r1 15 (qm 5<|qk .add 1<|qv 5<|qe))
def c353 : C := rs 0 (qF 4<|qe) <| i1 6 (qm 0<|qh false<|qm 1<|qh false<|qQ .neq 1<|qe) 10 (rs 0 (qF 4<|qe) .ret) <| sq (rs 0 (qz 5 0<|qe) <| bk 0 l353_0) <| rs 0 (qT 4<|qe) .ret
def F353 : F := mF 2 [.t 4] none c353
attribute [go_sem] c353 F353
def l354_0 : C := .loop [] [] [] [] (lq 13 (qm 5<|qr 2 9<|qh false<|qQ .lss 0<|qe) 17 0 <| sq (bk 1 (rt 20 (qr 2 9<|qm 5<|qi 1<|qj<|qr 3 9<|qm 5<|qi 1<|qj<|qQ .neq 4<|qe) <| cd 30 (rs 0 (qF 4<|qe) .ret) .skip)) <| r1 18 (qm 5<|qk .add 1<|qv 5<|qe))
def c354 : C := rs 0 (qB 2 0<|qB 3 1<|qF 4<|qe) <| i1 6 (qr 2 9<|qh false<|qr 3 9<|qh false<|qQ .neq 2<|qe) 12 (rs 0 (qF 4<|qe) .ret) <| sq (rs 0 (qz 5 0<|qe) <| bk 0 l354_0) <| rs 31 (qr 2 0<|qr 3 0<|qq .eql 1<|ya<|qr 2 1<|qr 3 1<|qq .eql 7<|za 5<|ya<|qr 2 2<|qr 3 2<|qq .eql 14<|za 12<|ya<|qr 2 3<|qr 3 3<|qq .eql 21<|za 19<|ya<|qr 2 4<|qr 3 4<|qq .eql 28<|za 26<|ya<|qr 2 5<|qr 3 5<|qq .eql 35<|za 33<|ya<|qr 2 6<|qr 3 6<|qq .eql 42<|za 40<|ya<|qr 2 7<|qr 3 7<|qq .eql 49<|za 47<|ya<|qr 2 8<|qr 3 8<|qq .eql 56<|za 54<|ya<|qr 2 10<|qr 3 10<|qq .eql 63<|za 61<|ya<|qr 2 11<|qr 3 11<|qq .eql 70<|za 68<|ya<|qr 2 12<|qr 3 12<|qq .eql 77<|za 75<|ya<|qR 2 13 2<|qR 3 13 2<|q1 (.eqa false [.s,.s] (.l 84) (.l 86))<|za 82<|ya<|qr 2 15<|qr 3 15<|qC 353 (ls [91,93])<|za 89<|ya<|qR 2 16 3<|qR 3 16 3<|q1 (.eqa false [.i,.i,.i] (.l 98) (.l 100))<|za 96<|ya<|qr 2 19<|qr 3 19<|qC 353 (ls [105,107])<|za 103<|qv 4<|qe) .ret
def F354 : F := mF 2 [.t 4] none c354
attribute [go_sem] c354 F354
def l366_0 : C := .loop [] [] [5] [] (rs 41 (q3 (.bin .lss (.g 40) (.g 39))<|qe) <| sq (cd 41 .skip <| .exit 0) <| sq (bk 1 (rs 42 (q1 (.iad 5 (.g 38) (.g 40))<|qJ 5<|qG 5 z_0<|qs 5 5 2 1<|qe) <| r1 44 (qm 3<|qr 5 2<|qr 5 3<|qr 5 4<|q1 (.mks 1 3 [.int .i64 0] [(0,.l 2),(1,.l 4),(2,.l 6)])<|q1 (.app 36 1 (.l 0) (.l 7))<|qv 3<|qe))) <| r1 53 (q1 (.bin .add (.g 40) (ci 1))<|qv 40<|qe))
def c366 : C := rs 0 (qB 1 0<|qS 2 1<|qe) <| rs 6 (qr 1 0<|qr 1 1<|qr 1 2<|qr 1 3<|qr 1 4<|qr 1 5<|qr 1 6<|qr 1 7<|qr 1 8<|qf 1 13<|qg 0<|ql 1<|qf 1 13<|qg 1<|ql 1<|qf 1 13<|qg 2<|ql 1<|qf 1 13<|qg 11<|ql 1<|q1 (.mkb 1 13 [.int .i64 0] [(0,.l 1),(1,.l 3),(2,.l 5),(3,.l 7),(4,.l 9),(5,.l 11),(6,.l 13),(7,.l 15),(8,.l 17),(9,.l 20),(10,.l 23),(11,.l 26),(12,.l 29)])<|qv 3<|qe) <| sq (rs 37 (qf 1 34<|q3 (.load (.v 1) none (.l 0))<|qH false<|q3 (.mov (ci 0))<|qe) <| bk 0 l366_0) <| rs 54 (qm 3<|qr 1 35<|q1 (.app 36 1 (.l 0) (.l 2))<|qv 2<|qe) .ret
def F366 : F := mF 1 [.t 2] none c366
attribute [go_sem] c366 F366
def c367 : C := rs 0 (qF 2<|qe) <| rs 3 (qm 0<|qk .lss 0<|yo<|qm 0<|qk .gtr 1099511627776<|zo 2<|qv 2<|qe) .ret
def F367 : F := mF 1 [.t 2] none c367
attribute [go_sem] c367 F367
def c368 : C := rs 0 (qF 2<|qe) <| rs 3 (qm 0<|qk .geq 1<|ya<|qm 0<|qk .leq 3<|za 2<|qv 2<|qe) .ret
def F368 : F := mF 1 [.t 2] none c368
attribute [go_sem] c368 F368
def c369 : C := rs 0 (qF 3<|qe) <| rs 4 (qm 0<|q1 (.load (.c) none (.g 1))<|qq .lss 0<|yo<|qm 0<|qk .gtr 1099511627776<|zo 3<|qv 3<|qe) .ret
def F369 : F := mF 2 [.t 3] none c369
attribute [go_sem] c369 F369
def l395_0 : C := .loop [] [] [8] [] (lq 19 (qm 5<|qK .leq 3<|qe) 20 0 <| sq (bk 1 (rs 24 (qm 5<|q1 (.call (.k 397) .freeze none [.l 0])<|q1 (.call (.k 401) .borrow none [.l 1])<|q2 23 (.mov (.l 2))<|qx 0<|qy 1<|qw 6<|qD 7<|q1 (.mov (.l 5))<|qe) <| rs 30 (qm 0<|qm 5<|q1 (.call (.k 345) .freeze none [.l 1])<|qm 6<|q1 (.call (.k 43) .freeze none [.l 0,.l 2,.l 3])<|q2 29 (.mov (.l 4))<|qx 0<|qy 1<|qG 8 z_4<|qs 8 7 8 6<|qV 9 7<|qe) <| rs 37 (qm 9<|qK .eql 0<|qe) <| cd 38 (r1 39 (qr 4 1<|qm 5<|qb 8 7<|q1 (.build z_16 [(0,1,.l 2),(1,7,.l 3)])<|q1 (.mks 9 1 z_16 [(0,.l 4)])<|q1 (.app 45 9 (.l 1) (.l 5))<|qf 4 1<|qs 4 1 7 6<|qe)) .skip)) <| r1 21 (qm 5<|qk .add 1<|qv 5<|qe))
def c395 : C := rs 0 (qG 2 z_17<|qz 3 0<|qe) <| i1 10 (qm 0<|qk .lss 1<|yo<|qm 0<|qk .gtr 3<|zO 2<|qe) 15 (rs 16 (q1 (.build z_17 [])<|qt 2 2 0<|qz 3 1<|qe) .ret) <| rs 17 (qm 0<|q1 (.build [.int .i64 0,.nslice 9] [(0,1,.l 0)])<|qG 4 z_18<|qs 4 2 2 1<|qe) <| sq (rs 0 (qz 5 1<|qe) <| bk 0 l395_0) <| rs 47 (qb 4 2<|qt 2 2 0<|qz 3 0<|qe) .ret
def F395 : F := mF 1 [.cell 2 (some 2),.t 3] none c395
attribute [go_sem] c395 F395
def c397 : C := rs 0 (qG 2 z_7<|qe) <| i1 3 (qm 0<|qK .neq 1<|qe) 4 (rs 5 (q1 (.build z_7 [])<|qt 2 5 0<|qe) .ret) <| rs 6 (q1 (.build z_9 [(0,1,.c (.int .i64 1)),(1,1,.c (.int .i64 1)),(4,1,.c (.int .i64 1))])<|q1 (.mks 17 1 z_9 [(0,.l 0)])<|q1 (.build z_7 [(0,1,.l 1)])<|qt 2 5 2<|qe) .ret
def F397 : F := mF 1 [.cell 2 (some 5)] none c397
attribute [go_sem] c397 F397
def l401_0 : C := .loop [] [4,0,10400] [6] [20200] (rs 25 (q3 (.bin .lss (.g 24) (.g 23))<|qe) <| sq (cd 25 .skip <| .exit 0) <| sq (bk 1 (rs 26 (q1 (.iad 17 (.g 22) (.g 24))<|qJ 17<|qG 6 z_9<|qs 6 17 2 1<|qe) <| r1 28 (qb 6 17<|q1 (.rcall 423 [.g 4,.l 0] 0 4 20200)<|qe))) <| r1 30 (q1 (.bin .add (.g 24) (ci 1))<|qv 24<|qe))
def c401 : C := rs 0 (qB 1 0<|qE 2<|qz 3 0<|qe) <| i1 7 (qb 1 5<|qc 249<|qN<|qe) 9 (rs 0 (qE 2<|qz 3 1<|qe) .ret) <| rs 4 (q3 (.allo [.nslice 1] 10400)<|qe) <| rs 10 (qR 1 1 3<|q1 (.mks 3 1 z_19 [(0,.l 1)])<|q1 (.rcall 421 [.g 4,.l 2] 0 4 20000)<|qe) <| rs 14 (qr 1 4<|qr 1 0<|qh false<|q1 (.mks 1 2 [.int .i64 0] [(0,.l 1),(1,.l 4)])<|q1 (.rcall 422 [.g 4,.l 5] 0 4 20100)<|qe) <| sq (rs 21 (qf 1 0<|q3 (.load (.v 1) none (.l 0))<|qH false<|q3 (.mov (ci 0))<|qe) <| bk 0 l401_0) <| rs 31 (qr 4 0<|q1 (.b2s (.l 1))<|qv 2<|qz 3 0<|qe) .ret
def F401 : F := mF 1 [.t 2,.t 3] none c401
attribute [go_sem] c401 F401
def l408_0 : C := .loop [] [] [5] [] (rs 10 (q3 (.bin .lss (.g 9) (.g 8))<|qe) <| sq (cd 10 .skip <| .exit 0) <| sq (bk 1 (rs 11 (q1 (.iad 9 (.g 7) (.g 9))<|qJ 9<|qG 5 z_16<|qs 5 9 2 1<|qe) <| i1 13 (qr 5 0<|qm 3<|qq .leq 1<|yo<|qr 5 0<|qc 368<|qn<|zo 4<|yo<|qf 5 1<|qg 0<|ql 5<|qr 1 0<|qq .neq 13<|zo 10<|yo<|qR 5 1 7<|qc 39<|qn<|zo 18<|yo<|qf 5 1<|qg 4<|ql 5<|qc 430<|qn<|zo 24<|yo<|qf 5 1<|qg 5<|ql 5<|qc 430<|qn<|zO 31<|qe) 50 (rs 0 (qF 2<|qe) .ret) <| i1 51 (qr 5 8<|qh false<|qk .gtr 0<|ya<|qR 5 1 7<|qc 41<|qn<|za 4<|yo<|qr 5 8<|q1 (.fn 431 [.g 1] [1])<|qd 432<|zO 10<|qe) 66 (rs 0 (qF 2<|qe) .ret) <| r1 67 (qr 5 0<|qv 3<|qe))) <| r1 69 (q1 (.bin .add (.g 9) (ci 1))<|qv 9<|qe))
def c408 : C := rs 0 (qB 1 0<|qF 2<|qe) <| rs 0 (qz 3 0<|qe) <| sq (rs 6 (qf 1 1<|q3 (.load (.v 1) none (.l 0))<|qH false<|q3 (.mov (ci 0))<|qe) <| bk 0 l408_0) <| rs 70 (qr 1 0<|qk .geq 1<|ya<|qr 1 0<|qk .leq 3<|za 3<|qv 2<|qe) .ret
def F408 : F := mF 1 [.t 2] none c408
attribute [go_sem] c408 F408
def c413 : C := rs 0 (qB 3 0<|qB 5 2<|qG 6 z_17<|qS 7 36<|qe) <| i1 14 (qb 3 2<|qc 408<|qn<|yo<|qb 5 36<|qc 341<|qn<|zo 3<|yo<|qm 1<|qk .lss 0<|zo 8<|yo<|qm 1<|qk .gtr 1099511627776<|zo 12<|yo<|qr 5 2<|qr 3 0<|qq .neq 18<|zO 16<|qe) 36 (rs 37 (qb 3 2<|qt 6 2 0<|qS 7 36<|qe) .ret) <| sq (rs 38 (qf 5 0<|q3 (.load (.v 5) none (.l 0))<|qe) <| bk 0 (sq (rs 41 (q1 (.bin .eql (.g 39) (ci 35))<|qv 40<|qe) <| cd 40 .skip <| rs 42 (q1 (.bin .eql (.g 39) (ci 36))<|qv 40<|qe) <| cd 40 .skip <| r1 43 (q1 (.bin .eql (.g 39) (ci 37))<|qv 40<|qe)) <| cd 40 (rs 44 (qb 3 2<|qb 5 36<|qd 437<|qx 0<|qy 1<|qt 6 2 3<|qw 7<|qe) .ret) <| rs 50 (q1 (.bin .eql (.g 39) (ci 33))<|qv 49<|qe) <| cd 49 (rs 51 (qb 3 2<|qb 5 36<|qd 438<|qx 0<|qy 1<|qt 6 2 3<|qw 7<|qe) .ret) .skip)) <| rs 57 (qb 3 2<|qr 5 7<|qC 427 (ls [0,2])<|q2 56 (.mov (.l 3))<|qx 0<|qy 1<|qG 8 z_16<|qs 8 9 7 5<|qV 9 6<|qe) <| i1 63 (qm 9<|qn<|yo<|qR 8 1 7<|qc 40<|qn<|zO 2<|qe) 70 (i1 71 (qr 5 0<|qK .eql 1<|qe) 73 (rt 74 (qb 3 2<|qb 3 2<|qb 5 36<|q1 (.build z_8 [(0,1,.c (.int .i64 10))])<|qC 439 (ls [1,2,3])<|q1 (.mks 36 1 z_20 [(0,.l 4)])<|qt 6 2 0<|qw 7<|qe) .ret) <| rs 80 (qb 3 2<|qt 6 2 0<|qS 7 36<|qe) .ret) <| i1 81 (qR 8 1 7<|q3 (.call (.k 41) .no none [.l 1])<|qe) 83 (rs 84 (qb 3 2<|qt 6 2 0<|qS 7 36<|qe) .ret) <| rs 86 (qf 8 1<|qg 4<|ql 8<|qc 428<|q2 85 (.mov (.l 3))<|qx 0<|qy 1<|qG 10 z_7<|qs 10 5 7 5<|qD 11<|q1 (.mov (.l 6))<|qe) <| sq (rs 92 (qf 5 0<|q3 (.load (.v 5) none (.l 0))<|qe) <| bk 1 (rs 95 (q1 (.bin .eql (.g 93) (ci 1))<|qv 94<|qe) <| cd 94 (rs 96 (qb 3 2<|qb 8 9<|qb 10 5<|qm 1<|qb 5 36<|qC 440 (ls [0,1,2,3,4])<|qx 0<|qy 1<|qt 6 2 6<|qw 7<|qe) .ret) <| rs 105 (q1 (.bin .eql (.g 93) (ci 14))<|qv 104<|qe) <| cd 104 (rt 106 (qb 3 2<|qb 3 2<|qb 10 5<|qb 5 36<|qC 441 (ls [1,2,3])<|qt 6 2 0<|qw 7<|qe) .ret) <| rs 112 (q1 (.bin .eql (.g 93) (ci 30))<|qv 111<|qe) <| cd 111 (i1 113 (qR 5 9 3<|qR 10 1 3<|qC 15 (ls [1,3])<|qK .leq 0<|qe) 118 (rt 119 (qb 3 2<|qr 3 0<|qr 5 7<|qR 10 1 3<|q1 (.build z_20 [(0,1,.c (.int .i64 31)),(1,1,.l 2),(7,1,.l 4),(9,3,.l 6)])<|q1 (.mks 36 1 z_20 [(0,.l 7)])<|qt 6 2 0<|qw 7<|qe) .ret) <| rt 128 (qb 3 2<|qb 8 9<|qb 10 5<|qR 5 9 3<|qC 261 (ls [2,4])<|qr 3 0<|qr 5 7<|qR 5 9 3<|q1 (.build z_20 [(0,1,.c (.int .i64 31)),(1,1,.l 7),(7,1,.l 9),(9,3,.l 11)])<|q1 (.mks 36 1 z_20 [(0,.l 12)])<|qC 442 (ls [0,1,5,13])<|qx 0<|qy 1<|qt 6 2 15<|qw 7<|qe) .ret) <| rs 146 (q1 (.bin .eql (.g 93) (ci 32))<|qv 145<|qe) <| cd 145 (rs 147 (qb 3 2<|qb 8 9<|qb 10 5<|qb 5 36<|qC 443 (ls [0,1,2,3])<|qx 0<|qy 1<|qt 6 2 5<|qw 7<|qe) .ret) .skip)) <| rs 155 (qb 3 2<|qb 10 5<|qb 5 36<|qC 444 (ls [0,1,2])<|q2 154 (.mov (.l 3))<|qx 0<|qy 1<|qY 4 2<|qG 12 z_7<|qG 13 z_20<|qs 12 5 8 5<|qs 13 36 9 6<|qV 9 7<|qe) <| i1 162 (qm 9<|qN<|qe) 163 (rs 164 (qb 3 2<|qt 6 2 0<|qS 7 36<|qe) .ret) <| rt 165 (qr 3 0<|qr 5 7<|qf 13 1<|qs 13 1 4 1<|qf 13 7<|qs 13 1 6 3<|qe) <| rs 171 (qb 3 2<|qb 8 9<|qb 12 5<|qb 13 36<|q1 (.mks 36 1 z_20 [(0,.l 3)])<|qC 442 (ls [0,1,2,4])<|qx 0<|qy 1<|qt 6 2 6<|qw 7<|qe) .ret
def F413 : F := mF 3 [.cell 6 (some 2),.t 7] none c413
attribute [go_sem] c413 F413
def l421_0 : C := .loop [] [0,0,9000] [5] [] (rs 11 (q3 (.bin .lss (.g 10) (.g 9))<|qe) <| sq (cd 11 .skip <| .exit 0) <| sq (bk 1 (rs 12 (q1 (.iad 3 (.g 8) (.g 10))<|qJ 3<|qG 5 z_19<|qs 5 3 2 1<|qe) <| rs 15 (qb 5 3<|qc 455<|q2 14 (.mov (.l 1))<|qx 0<|qy 1<|qw 6<|qD 7<|q1 (.mov (.l 4))<|qe) <| r1 19 (qm 0<|qm 0<|q1 (.nilc (.l 1))<|qg 0<|ql 0<|qm 6<|q1 (.appd 1 (.l 4) (.l 5))<|q1 (.nilc (.l 0))<|qg 0<|qs 0 1 8 6<|qe))) <| r1 28 (q1 (.bin .add (.g 10) (ci 1))<|qv 10<|qe))
def c421 : C := rs 8 (q3 (.mov (.g 1))<|qH false<|q3 (.mov (ci 0))<|qe) <| bk 0 l421_0
def F421 : F := mF 2 [] none c421
attribute [go_sem] c421 F421
def l422_0 : C := .loop [] [0,0,9000] [] [] (rs 11 (q3 (.bin .lss (.g 10) (.g 9))<|qe) <| sq (cd 11 .skip <| .exit 0) <| sq (bk 1 (rs 12 (q1 (.iad 1 (.g 8) (.g 10))<|qj<|qv 5<|qe) <| rs 15 (qm 5<|qc 456<|q2 14 (.mov (.l 1))<|qx 0<|qy 1<|qw 6<|qD 7<|q1 (.mov (.l 4))<|qe) <| r1 19 (qm 0<|qm 0<|q1 (.nilc (.l 1))<|qg 0<|ql 0<|qm 6<|q1 (.appd 1 (.l 4) (.l 5))<|q1 (.nilc (.l 0))<|qg 0<|qs 0 1 8 6<|qe))) <| r1 28 (q1 (.bin .add (.g 10) (ci 1))<|qv 10<|qe))
def c422 : C := rs 8 (q3 (.mov (.g 1))<|qH false<|q3 (.mov (ci 0))<|qe) <| bk 0 l422_0
def F422 : F := mF 2 [] none c422
attribute [go_sem] c422 F422
def l423_1 : C := .loop [] [0,0,9000] [7] [20600,20700,20800] (rs 71 (q3 (.bin .lss (.g 70) (.g 69))<|qe) <| sq (cd 71 .skip <| .exit 2) <| sq (bk 3 (rs 72 (q1 (.iad 5 (.g 68) (.g 70))<|qJ 5<|qG 7 z_2<|qs 7 5 2 1<|qe) <| rs 74 (qm 0<|qR 7 0 3<|q1 (.mks 3 1 z_19 [(0,.l 2)])<|q1 (.rcall 421 [.l 0,.l 3] 0 0 20600)<|qe) <| rs 79 (qm 0<|qr 7 3<|q1 (.rcall 458 [.l 0,.l 2] 0 0 20700)<|qe) <| r1 83 (qm 0<|qr 7 4<|q1 (.mks 1 1 [.str []] [(0,.l 2)])<|q1 (.rcall 457 [.l 0,.l 3] 0 0 20800)<|qe))) <| r1 88 (q1 (.bin .add (.g 70) (ci 1))<|qv 70<|qe))
def l423_0 : C := .loop [] [0,0,9000] [5,7] [20400,20500,20600,20700,20800] (rs 53 (q3 (.bin .lss (.g 52) (.g 51))<|qe) <| sq (cd 53 .skip <| .exit 0) <| sq (bk 1 (rs 54 (q1 (.iad 2 (.g 50) (.g 52))<|qJ 2<|qG 5 z_6<|qs 5 2 2 1<|qe) <| rs 56 (qm 0<|qr 5 0<|q1 (.mks 1 1 [.str []] [(0,.l 2)])<|q1 (.rcall 457 [.l 0,.l 3] 0 0 20400)<|qe) <| rs 61 (qm 0<|qr 5 1<|qh false<|q1 (.mks 1 1 [.int .i64 0] [(0,.l 3)])<|q1 (.rcall 422 [.l 0,.l 4] 0 0 20500)<|qe) <| rs 67 (qf 5 1<|q3 (.load (.v 5) none (.l 0))<|qH false<|q3 (.mov (ci 0))<|qe) <| bk 2 l423_1)) <| r1 89 (q1 (.bin .add (.g 52) (ci 1))<|qv 52<|qe))
def l423_2 : C := .loop [] [0,0,9000] [9] [21000,21100,21200,21300] (rs 100 (q3 (.bin .lss (.g 99) (.g 98))<|qe) <| sq (cd 100 .skip <| .exit 4) <| sq (bk 5 (rs 101 (q1 (.iad 11 (.g 97) (.g 99))<|qJ 11<|qG 9 z_3<|qs 9 11 2 1<|qe) <| rs 103 (qm 0<|qr 9 0<|qr 9 1<|qf 9 2<|qg 0<|ql 9<|q1 (.mks 1 3 [.int .i64 0] [(0,.l 2),(1,.l 4),(2,.l 7)])<|q1 (.rcall 422 [.l 0,.l 8] 0 0 21000)<|qe) <| rs 113 (qm 0<|qf 9 2<|qg 1<|q1 (.load (.v 9) (some 3) (.l 2))<|q1 (.mks 3 1 z_19 [(0,.l 3)])<|q1 (.rcall 421 [.l 0,.l 4] 0 0 21100)<|qe) <| rs 119 (qm 0<|qf 9 2<|qg 4<|ql 9<|q1 (.rcall 458 [.l 0,.l 3] 0 0 21200)<|qe) <| r1 124 (qm 0<|qf 9 2<|qg 5<|ql 9<|q1 (.mks 1 1 [.str []] [(0,.l 3)])<|q1 (.rcall 457 [.l 0,.l 4] 0 0 21300)<|qe))) <| r1 130 (q1 (.bin .add (.g 99) (ci 1))<|qv 99<|qe))
def c423 : C := rs 0 (qB 3 1<|qe) <| rs 10 (qm 0<|qr 3 0<|qr 3 1<|qr 3 4<|qr 3 13<|qr 3 14<|qr 3 15<|qr 3 16<|q1 (.mks 1 7 [.int .i64 0] [(0,.l 2),(1,.l 4),(2,.l 6),(3,.l 8),(4,.l 10),(5,.l 12),(6,.l 14)])<|q1 (.rcall 422 [.l 0,.l 15] 0 0 20000)<|qe) <| rs 27 (qm 0<|qf 3 2<|qg 0<|ql 3<|qf 3 2<|qg 1<|ql 3<|q1 (.mks 1 2 [.str []] [(0,.l 3),(1,.l 6)])<|q1 (.rcall 457 [.l 0,.l 7] 0 0 20100)<|qe) <| rs 36 (qm 0<|qR 3 6 3<|qR 3 9 3<|q1 (.mks 3 2 z_19 [(0,.l 2),(1,.l 4)])<|q1 (.rcall 421 [.l 0,.l 5] 0 0 20200)<|qe) <| rs 43 (qm 0<|qr 3 5<|qh false<|q1 (.mks 1 1 [.int .i64 0] [(0,.l 3)])<|q1 (.rcall 422 [.l 0,.l 4] 0 0 20300)<|qe) <| sq (rs 49 (qf 3 5<|q3 (.load (.v 3) none (.l 0))<|qH false<|q3 (.mov (ci 0))<|qe) <| bk 0 l423_0) <| rs 90 (qm 0<|qr 3 12<|qh false<|q1 (.mks 1 1 [.int .i64 0] [(0,.l 3)])<|q1 (.rcall 422 [.l 0,.l 4] 0 0 20900)<|qe) <| rs 96 (qf 3 12<|q3 (.load (.v 3) none (.l 0))<|qH false<|q3 (.mov (ci 0))<|qe) <| bk 4 l423_2
def F423 : F := mF 2 [] none c423
attribute [go_sem] c423 F423
def c427 : C := rs 0 (qB 2 0<|qB 3 1<|qG 4 z_16<|qF 5<|qe) <| rs 7 (qr 2 1<|q1 (.fn 462 [.g 3] [3])<|qd 463<|qv 6<|qe) <| i1 11 (qm 6<|qK .lss 0<|qe) 12 (rs 13 (q1 (.load (.v 3) none (.g 3))<|qr 2 0<|q1 (.build z_4 [(0,1,.l 2)])<|q1 (.build z_16 [(0,1,.l 0),(1,7,.l 3)])<|qt 4 9 4<|qF 5<|qe) .ret) <| rs 18 (qr 2 1<|qm 6<|qi 9<|qJ 9<|qt 4 9 4<|qT 5<|qe) .ret
def F427 : F := mF 2 [.cell 4 (some 9),.t 5] none c427
attribute [go_sem] c427 F427
def l428_0 : C := .loop [] [] [] [] (rs 17 (q3 (.bin .lss (.g 16) (.g 15))<|qe) <| sq (cd 17 .skip <| .exit 0) <| sq (bk 1 (r2 18 (qr 5 0<|qm 4<|q1 (.rcall 467 [.l 2] 0 8 20300)<|q1 (.mks 17 1 z_9 [(0,.l 3)])<|q1 (.app 23 17 (.l 1) (.l 4))<|qf 5 0<|qs 5 1 6 5<|qe))) <| r1 25 (q1 (.bin .add (.g 16) (ci 1))<|qv 16<|qe))
def c428 : C := rs 0 (qG 2 z_7<|qz 3 0<|qe) <| rs 6 (qm 0<|q1 (.build z_21 [(0,1,.l 0)])<|q1 (.box (.l 1))<|qv 4<|qe) <| rs 9 (qm 4<|q1 (.rcall 464 [.l 0] 0 8 20000)<|qm 4<|q1 (.rcall 465 [.l 2] 0 8 20100)<|q1 (.build [.nslice 17,.int .i64 0,.int .i64 0,.int .i64 0,.int .i64 0] [(1,3,.l 1),(4,1,.l 3)])<|qG 5 z_22<|qs 5 5 5 4<|qe) <| sq (rs 14 (qm 4<|q3 (.rcall 466 [.l 0] 0 8 20200)<|q3 (.mov (ci 0))<|qe) <| bk 0 l428_0) <| i1 26 (qm 4<|q1 (.nilc (.l 0))<|qg 1<|ql 8<|yo<|qm 4<|q1 (.nilc (.l 5))<|qg 0<|ql 8<|q1 (.bin .neq (.l 8) (.c (.str [])))<|zo 4<|yo<|qb 5 5<|q1 (.call (.k 249) .borrow none [.l 12])<|qn<|zO 11<|qe) 41 (rs 42 (q1 (.build z_7 [])<|qt 2 5 0<|qz 3 3<|qe) .ret) <| rs 43 (qb 5 5<|qt 2 5 0<|qz 3 0<|qe) .ret
def F428 : F := mF 1 [.cell 2 (some 5),.t 3] none c428
attribute [go_sem] c428 F428
def l429_0 : C := .loop [] [] [7] [] (rs 11 (q3 (.bin .lss (.g 10) (.g 9))<|qe) <| sq (cd 11 .skip <| .exit 0) <| sq (bk 1 (rs 12 (q1 (.iad 7 (.g 8) (.g 10))<|qJ 7<|qG 7 z_5<|qs 7 7 2 1<|qe) <| r1 14 (qm 5<|qr 7 0<|q1 (.bin .add (ci 35) (.l 2))<|qk .sub 1<|qr 7 1<|qr 7 2<|qm 0<|qr 7 3<|qr 7 4<|qr 7 5<|qr 7 6<|q1 (.build z_20 [(0,1,.l 4),(1,1,.l 6),(2,1,.l 8),(7,1,.l 9),(4,1,.l 11),(8,1,.l 13),(35,1,.l 15),(12,1,.l 17)])<|q1 (.mks 36 1 z_20 [(0,.l 18)])<|q1 (.app 5 36 (.l 0) (.l 19))<|qv 5<|qe))) <| r1 35 (q1 (.bin .add (.g 10) (ci 1))<|qv 10<|qe))
def c429 : C := rs 0 (qS 4 36<|qe) <| rs 5 (q3 (.mko 36)<|qe) <| sq (rs 8 (q3 (.mov (.g 1))<|qH false<|q3 (.mov (ci 0))<|qe) <| bk 0 l429_0) <| rs 36 (qm 5<|qv 4<|qe) .ret
def F429 : F := mF 2 [.t 4] (some 0) c429
attribute [go_sem] c429 F429
def c430 : C := rs 0 (qF 2<|qe) <| rs 6 (qm 0<|qc 428<|q2 5 (.mov (.l 1))<|qx 0<|qy 1<|qD 3<|q1 (.alloc z_7)<|qs 3 5 5 3<|q3 (.mov (.l 4))<|qe) <| rs 10 (qm 4<|qk .eql 0<|qv 2<|qe) .ret
def F430 : F := mF 1 [.t 2] none c430
attribute [go_sem] c430 F430
def c431 : C := rs 0 (qB 2 0<|qF 3<|qe) <| rs 4 (qb 2 36<|qc 341<|qn<|yo<|qr 2 1<|qf 1 0<|qj<|qq .neq 5<|zo 3<|qv 3<|qe) .ret
def F431 : F := mF 2 [.t 3] none c431
attribute [go_sem] c431 F431
def c432 : C := rs 0 (qF 4<|qe) <| rs 5 (qm 0<|qm 1<|qd 468<|qk .geq 0<|qv 4<|qe) .ret
def F432 : F := mF 2 [.t 4] none c432
attribute [go_sem] c432 F432
def c439 : C := rs 0 (qB 3 0<|qB 4 1<|qB 5 2<|qG 6 z_20<|qe) <| rs 7 (qr 3 0<|qr 4 1<|qr 4 7<|qf 4 13<|qg 0<|ql 4<|qf 4 13<|qg 1<|ql 4<|q1 (.build z_23 [(0,1,.l 8),(1,1,.l 11)])<|qb 5 9<|q1 (.build z_20 [(0,1,.c (.int .i64 2)),(1,1,.l 1),(2,1,.l 3),(7,1,.l 5),(13,12,.l 12),(25,9,.l 13)])<|qt 6 36 14<|qe) .ret
def F439 : F := mF 3 [.cell 6 (some 36)] none c439
attribute [go_sem] c439 F439
def c440 : C := rs 0 (qB 5 0<|qB 6 1<|qB 7 2<|qB 9 4<|qG 10 z_17<|qS 11 36<|qe) <| rs 18 (qR 7 1 3<|qG 12 z_19<|qs 12 3 2 1<|qe) <| rs 20 (qr 5 0<|qf 12 2<|qs 12 1 2 1<|qe) <| rs 24 (qb 12 3<|q1 (.build z_19 [(0,3,.l 0)])<|qm 3<|qd 474<|q2 23 (.mov (.l 3))<|qx 0<|qy 1<|qY 4 2<|qD 13<|q1 (.alloc z_19)<|q3 (.alloc z_19)<|qs 13 3 8 5<|qs 14 3 9 6<|q3 (.mov (.l 7))<|qe) <| i1 31 (qm 15<|qK .neq 0<|qe) 32 (rt 33 (qb 5 2<|qb 5 2<|qb 9 36<|qm 15<|q1 (.build z_8 [(0,1,.l 3)])<|qC 439 (ls [1,2,4])<|q1 (.mks 36 1 z_20 [(0,.l 5)])<|qt 10 2 0<|qw 11<|qe) .ret) <| rs 41 (qb 7 5<|qr 9 3<|qr 9 4<|qR 9 13 12<|qb 14 3<|qm 3<|qC 240 (ls [0,2,4,6,7,8])<|q2 40 (.mov (.l 9))<|qx 0<|qy 1<|qG 16 z_7<|qG 17 z_8<|qs 16 5 13 11<|qs 17 9 14 12<|qe) <| i1 53 (qr 17 0<|qk .neq 0<|ya<|qr 17 0<|qk .neq 15<|zA 3<|qe) 60 (rt 61 (qb 5 2<|qb 5 2<|qb 9 36<|qb 17 9<|qC 439 (ls [1,2,3])<|q1 (.mks 36 1 z_20 [(0,.l 4)])<|qt 10 2 0<|qw 11<|qe) .ret) <| rt 67 (qb 5 2<|qb 6 9<|qb 16 5<|qb 5 2<|qb 9 36<|qb 17 9<|qC 439 (ls [3,4,5])<|q1 (.mks 36 1 z_20 [(0,.l 6)])<|qC 442 (ls [0,1,2,7])<|qx 0<|qy 1<|qt 10 2 9<|qw 11<|qe) .ret
def F440 : F := mF 5 [.cell 10 (some 2),.t 11] none c440
attribute [go_sem] c440 F440
def c442 : C := rs 0 (qB 4 0<|qB 5 1<|qB 6 2<|qG 8 z_17<|qS 9 36<|qe) <| rs 17 (qb 6 5<|qc 401<|q2 16 (.mov (.l 1))<|qx 0<|qy 1<|qw 10<|qD 11<|q1 (.mov (.l 4))<|qe) <| rs 22 (qR 5 1 7<|qm 10<|qd 47<|q2 21 (.mov (.l 3))<|qx 0<|qy 1<|qY 4 2<|qG 12 z_4<|qs 12 7 8 5<|qV 13 6<|qV 14 7<|qe) <| i1 29 (qm 14<|qK .neq 0<|qe) 30 (rs 31 (qb 4 2<|qt 8 2 0<|qS 9 36<|qe) .ret) <| rs 32 (qr 5 0<|qm 13<|q1 (.call (.k 429) .no (some 0) [.l 1,.l 2])<|qv 15<|qe) <| rs 36 (qb 12 7<|qm 3<|qf 5 1<|qs 5 7 2 0<|qf 5 8<|qs 5 1 4 1<|qe) <| i1 40 (qb 12 7<|qc 41<|qN<|qe) 42 (r1 43 (qm 15<|qm 3<|q1 (.app 35 36 (.l 0) (.l 1))<|qv 15<|qf 5 8<|q5 (.store (.v 5) 1 (.l 4) (.c (.slice 36 [])))<|qe)) <| rs 47 (qb 4 2<|qb 5 9<|qd 473<|qm 15<|qt 8 2 2<|qw 9<|qe) .ret
def F442 : F := mF 4 [.cell 8 (some 2),.t 9] none c442
attribute [go_sem] c442 F442
def c455 : C := rs 0 (qB 1 0<|qE 2<|qz 3 0<|qe) <| i1 4 (qb 1 3<|qc 28<|qN<|qe) 6 (rs 0 (qE 2<|qz 3 1<|qe) .ret) <| rs 7 (qr 1 0<|qr 1 1<|qr 1 2<|q1 (.mks 1 3 [.int .i64 0] [(0,.l 1),(1,.l 3),(2,.l 5)])<|qc 483<|qx 0<|qy 1<|qw 2<|qw 3<|qe) .ret
def F455 : F := mF 1 [.t 2,.t 3] none c455
attribute [go_sem] c455 F455
def l456_0 : C := .loop [] [] [] [] (lq 7 (qm 0<|qK .geq 128<|qe) 8 0 <| bk 1 (rs 9 (qm 4<|qm 0<|q1 (.conv (.int .u8) (.l 1))<|q1 (.bin .or (.l 2) (.c (.int .u8 128)))<|q1 (.mks 1 1 [.int .u8 0] [(0,.l 3)])<|q1 (.app 4 1 (.l 0) (.l 4))<|qv 4<|qe) <| r1 15 (qm 0<|q1 (.sh .shr (.l 0) (.c (.int .u64 7)))<|qv 0<|qe)))
def c456 : C := rs 0 (qE 2<|qz 3 0<|qe) <| i1 5 (qm 0<|qK .lss 0<|qe) 6 (rs 0 (qE 2<|qz 3 1<|qe) .ret) <| rs 4 (q3 (.mko 1)<|qe) <| sq (bk 0 l456_0) <| rs 17 (qm 4<|qm 0<|q1 (.conv (.int .u8) (.l 1))<|q1 (.mks 1 1 [.int .u8 0] [(0,.l 2)])<|q1 (.app 4 1 (.l 0) (.l 3))<|q1 (.b2s (.l 4))<|qv 2<|qz 3 0<|qe) .ret
def F456 : F := mF 1 [.t 2,.t 3] none c456
attribute [go_sem] c456 F456
def l457_0 : C := .loop [] [0,0,9000] [] [] (rs 9 (q3 (.bin .lss (.g 8) (.g 7))<|qe) <| sq (cd 9 .skip <| .exit 0) <| sq (bk 1 (rs 10 (q1 (.iad 1 (.g 6) (.g 8))<|qj<|qv 5<|qe) <| r2 12 (qm 0<|qm 0<|q1 (.nilc (.l 1))<|qg 0<|ql 0<|qm 5<|qc 484<|q1 (.appd 1 (.l 4) (.l 6))<|q1 (.nilc (.l 0))<|qg 0<|qs 0 1 9 7<|qe))) <| r1 22 (q1 (.bin .add (.g 8) (ci 1))<|qv 8<|qe))
def c457 : C := rs 6 (q3 (.mov (.g 1))<|qH false<|q3 (.mov (ci 0))<|qe) <| bk 0 l457_0
def F457 : F := mF 2 [] none c457
attribute [go_sem] c457 F457
def c458 : C := r2 4 (qm 0<|qm 0<|q1 (.nilc (.l 1))<|qg 0<|ql 0<|qm 1<|qc 485<|q1 (.appd 1 (.l 4) (.l 6))<|q1 (.nilc (.l 0))<|qg 0<|qs 0 1 9 7<|qe)
def F458 : F := mF 2 [] none c458
attribute [go_sem] c458 F458
def c459 : C := rs 0 (qB 1 0<|qE 2<|qe) <| rs 3 (qb 1 3<|qc 486<|qv 2<|qe) .ret
def F459 : F := mF 1 [.t 2] none c459
attribute [go_sem] c459 F459
def c460 : C := rs 0 (qE 2<|qe) <| rs 6 (qm 0<|qc 487<|q2 5 (.mov (.l 1))<|qx 0<|qy 1<|qw 3<|qD 4<|q1 (.mov (.l 4))<|qe) <| rs 10 (qm 3<|qv 2<|qe) .ret
def F460 : F := mF 1 [.t 2] none c460
attribute [go_sem] c460 F460
def c462 : C := rs 0 (qB 2 0<|qF 3<|qe) <| rs 4 (qr 2 0<|q1 (.load (.c) none (.g 1))<|qq .eql 1<|qv 3<|qe) .ret
def F462 : F := mF 2 [.t 3] none c462
attribute [go_sem] c462 F462
def l463_0 : C := .loop [] [] [] [] (rs 9 (q3 (.bin .lss (.g 8) (.g 7))<|qe) <| sq (cd 9 .skip <| .exit 0) <| sq (bk 1 (rs 10 (qm 8<|qv 5<|qe) <| rs 11 (qm 1<|qm 0<|qm 5<|qi 9<|qJ 9<|q3 (.call (.v (.l 0)) .no none [.l 4])<|qe) <| cd 16 (rs 17 (qm 5<|qv 4<|qe) .ret) .skip)) <| r1 18 (q1 (.bin .add (.g 8) (ci 1))<|qv 8<|qe))
def c463 : C := rs 0 (qz 4 0<|qe) <| sq (rs 6 (qm 0<|qH false<|q3 (.mov (ci 0))<|qe) <| bk 0 l463_0) <| rs 0 (qz 4 (-1)<|qe) .ret
def F463 : F := mF 2 [.t 4] none c463
attribute [go_sem] c463 F463
def c464 : C := rs 0 (qG 2 z_19<|qe) <| rs 7 (qm 0<|q1 (.nilc (.l 0))<|qg 0<|ql 0<|qc 490<|q2 6 (.mov (.l 4))<|qx 0<|qy 1<|qY 5 2<|qG 3 z_19<|qs 3 3 9 6<|qV 4 7<|qV 5 8<|qe) <| i1 15 (qm 0<|q1 (.nilc (.l 0))<|qg 1<|ql 0<|yo<|qm 5<|qk .neq 0<|zO 4<|qe) 22 (rs 23 (qm 0<|q1 (.nilc (.l 0))<|qg 1<|q5 (.store (.v 0) 1 (.l 2) (cb true))<|qe) <| rs 26 (q1 (.build z_19 [])<|qt 2 3 0<|qe) .ret) <| rs 27 (qm 0<|qm 4<|q1 (.nilc (.l 0))<|qg 0<|qs 0 1 3 1<|qe) <| rs 31 (qb 3 3<|qt 2 3 0<|qe) .ret
def F464 : F := mF 1 [.cell 2 (some 3)] none c464
attribute [go_sem] c464 F464
def c465 : C := rs 0 (qz 2 0<|qe) <| rs 7 (qm 0<|q1 (.nilc (.l 0))<|qg 0<|ql 0<|qc 491<|q2 6 (.mov (.l 4))<|qx 0<|qy 1<|qY 5 2<|qV 3 6<|qV 4 7<|qV 5 8<|qe) <| i1 15 (qm 0<|q1 (.nilc (.l 0))<|qg 1<|ql 0<|yo<|qm 5<|qk .neq 0<|zO 4<|qe) 22 (rs 23 (qm 0<|q1 (.nilc (.l 0))<|qg 1<|q5 (.store (.v 0) 1 (.l 2) (cb true))<|qe) <| rs 0 (qz 2 0<|qe) .ret) <| rs 26 (qm 0<|qm 4<|q1 (.nilc (.l 0))<|qg 0<|qs 0 1 3 1<|qe) <| rs 30 (qm 3<|qv 2<|qe) .ret
def F465 : F := mF 1 [.t 2] none c465
attribute [go_sem] c465 F465
def c466 : C := rs 0 (qz 2 0<|qe) <| rs 4 (qm 0<|q1 (.rcall 465 [.l 0] 0 0 20000)<|qv 3<|qe) <| i1 6 (qm 3<|qm 0<|q1 (.nilc (.l 1))<|qg 0<|ql 0<|qh true<|qQ .gtr 0<|qe) 12 (rs 13 (qm 0<|q1 (.nilc (.l 0))<|qg 1<|q5 (.store (.v 0) 1 (.l 2) (cb true))<|qe) <| rs 0 (qz 2 0<|qe) .ret) <| rs 16 (qm 3<|qv 2<|qe) .ret
def F466 : F := mF 1 [.t 2] none c466
attribute [go_sem] c466 F466
def l467_1 : C := .loop [] [] [] [] (rs 51 (q3 (.bin .lss (.g 50) (.g 49))<|qe) <| sq (cd 51 .skip <| .exit 2) <| sq (bk 3 (r2 52 (qr 4 1<|qm 0<|q1 (.rcall 464 [.l 2] 0 0 21400)<|qm 0<|q1 (.rcall 493 [.l 4] 0 0 21500)<|qm 0<|q1 (.rcall 492 [.l 6] 0 0 21600)<|q1 (.build z_2 [(0,3,.l 3),(3,1,.l 5),(4,1,.l 7)])<|q1 (.mks 5 1 z_2 [(0,.l 8)])<|q1 (.app 62 5 (.l 1) (.l 9))<|qf 4 1<|qs 4 1 11 10<|qe))) <| r1 64 (q1 (.bin .add (.g 50) (ci 1))<|qv 50<|qe))
def l467_0 : C := .loop [] [] [4] [62] (rs 44 (q3 (.bin .lss (.g 43) (.g 42))<|qe) <| sq (cd 44 .skip <| .exit 0) <| sq (bk 1 (rs 45 (qm 0<|q1 (.rcall 492 [.l 0] 0 0 21200)<|q1 (.build [.str [],.nslice 5] [(0,1,.l 1)])<|qG 4 z_24<|qs 4 2 3 2<|qe) <| sq (rs 48 (qm 0<|q3 (.rcall 466 [.l 0] 0 0 21300)<|q3 (.mov (ci 0))<|qe) <| bk 2 l467_1) <| r1 65 (qr 3 5<|q1 (.ldf 62 4 2 (.g 4))<|q1 (.mks 2 1 z_6 [(0,.l 2)])<|q1 (.app 69 2 (.l 1) (.l 3))<|qf 3 5<|qs 3 1 5 4<|qe))) <| r1 71 (q1 (.bin .add (.g 43) (ci 1))<|qv 43<|qe))
def l467_2 : C := .loop [] [] [5] [] (rs 75 (q3 (.bin .lss (.g 74) (.g 73))<|qe) <| sq (cd 75 .skip <| .exit 4) <| sq (bk 5 (rs 76 (qm 0<|q1 (.rcall 465 [.l 0] 0 0 21800)<|qm 0<|q1 (.rcall 465 [.l 2] 0 0 21900)<|q1 (.build z_3 [(0,1,.l 1),(1,1,.l 3)])<|qG 5 z_3<|qs 5 11 5 4<|qe) <| rs 81 (qm 0<|q1 (.rcall 465 [.l 0] 0 0 22000)<|qm 0<|q1 (.rcall 464 [.l 2] 0 0 22100)<|qm 0<|q1 (.rcall 493 [.l 4] 0 0 22200)<|qm 0<|q1 (.rcall 492 [.l 6] 0 0 22300)<|q1 (.build z_8 [(0,1,.l 1),(1,3,.l 3),(4,1,.l 5),(5,1,.l 7)])<|qf 5 2<|qs 5 9 9 8<|qe) <| r1 91 (qr 3 12<|qb 5 11<|q1 (.mks 11 1 z_3 [(0,.l 2)])<|q1 (.app 95 11 (.l 1) (.l 3))<|qf 3 12<|qs 3 1 5 4<|qe))) <| r1 97 (q1 (.bin .add (.g 74) (ci 1))<|qv 74<|qe))
def c467 : C := rs 0 (qG 2 z_9<|qe) <| rs 0 (qG 3 z_25<|qe) <| rs 6 (qm 0<|q1 (.rcall 465 [.l 0] 0 0 20000)<|qm 0<|q1 (.rcall 465 [.l 2] 0 0 20100)<|qm 0<|q1 (.rcall 465 [.l 4] 0 0 20200)<|qm 0<|q1 (.rcall 465 [.l 6] 0 0 20300)<|qf 3 0<|qs 3 1 8 1<|qf 3 1<|qs 3 1 10 3<|qf 3 4<|qs 3 1 12 5<|qf 3 13<|qs 3 1 14 7<|qe) <| rs 18 (qm 0<|q1 (.rcall 465 [.l 0] 0 0 20400)<|qm 0<|q1 (.rcall 465 [.l 2] 0 0 20500)<|qm 0<|q1 (.rcall 465 [.l 4] 0 0 20600)<|qf 3 14<|qs 3 1 6 1<|qf 3 15<|qs 3 1 8 3<|qf 3 16<|qs 3 1 10 5<|qe) <| rs 27 (qm 0<|q1 (.rcall 492 [.l 0] 0 0 20700)<|qm 0<|q1 (.rcall 492 [.l 2] 0 0 20800)<|qf 3 2<|qg 0<|qs 3 1 5 1<|qf 3 2<|qg 1<|qs 3 1 8 3<|qe) <| rs 35 (qm 0<|q1 (.rcall 464 [.l 0] 0 0 20900)<|qm 0<|q1 (.rcall 464 [.l 2] 0 0 21000)<|qf 3 6<|qs 3 3 4 1<|qf 3 9<|qs 3 3 6 3<|qe) <| sq (rs 41 (qm 0<|q3 (.rcall 466 [.l 0] 0 0 21100)<|q3 (.mov (ci 0))<|qe) <| bk 0 l467_0) <| sq (rs 72 (qm 0<|q3 (.rcall 466 [.l 0] 0 0 21700)<|q3 (.mov (ci 0))<|qe) <| bk 4 l467_2) <| rs 98 (qb 3 17<|qt 2 17 0<|qe) .ret
def F467 : F := mF 1 [.cell 2 (some 17)] none c467
attribute [go_sem] c467 F467
def l468_0 : C := .loop [] [] [] [] (rs 9 (q3 (.bin .lss (.g 8) (.g 7))<|qe) <| sq (cd 9 .skip <| .exit 0) <| sq (bk 1 (rs 10 (qm 8<|qv 5<|qe) <| rs 11 (qm 1<|qm 0<|qm 5<|qi 36<|qJ 36<|q3 (.call (.v (.l 0)) .no none [.l 4])<|qe) <| cd 16 (rs 17 (qm 5<|qv 4<|qe) .ret) .skip)) <| r1 18 (q1 (.bin .add (.g 8) (ci 1))<|qv 8<|qe))
def c468 : C := rs 0 (qz 4 0<|qe) <| sq (rs 6 (qm 0<|qH false<|q3 (.mov (ci 0))<|qe) <| bk 0 l468_0) <| rs 0 (qz 4 (-1)<|qe) .ret
def F468 : F := mF 2 [.t 4] none c468
attribute [go_sem] c468 F468
def c473 : C := rs 0 (qB 2 0<|qB 3 1<|qG 4 z_17<|qe) <| rs 6 (qr 2 1<|q1 (.fn 496 [.g 3] [3])<|q1 (.call (.k 463) .borrow none [.l 1,.l 2])<|qv 5<|qe) <| rs 10 (qr 2 1<|q1 (.call (.k 497) .freeze (some 0) [.l 1])<|qf 2 1<|qs 2 1 3 2<|qe) <| sq (bk 0 (rs 22 (qm 5<|qk .lss 0<|qv 21<|qe) <| cd 21 (r1 24 (qr 2 1<|qb 3 9<|q1 (.mks 9 1 z_16 [(0,.l 2)])<|q1 (.app 12 9 (.l 1) (.l 3))<|qf 2 1<|qs 2 1 5 4<|qe)) <| rt 31 (qr 2 1<|qm 5<|qi 9<|qg 0<|q1 (.load (.e 12) none (.l 4))<|qr 3 0<|qq .eql 5<|qv 30<|qe) <| cd 30 (r1 40 (qr 2 1<|qm 5<|qb 3 9<|q1 (.iad 9 (.l 1) (.l 2))<|q5 (.store (.e 12) 9 (.l 4) (.l 3))<|qe)) <| r1 14 (qr 2 1<|qm 5<|qb 3 9<|q1 (.mks 9 1 z_16 [(0,.l 3)])<|q1 (.ins 498 12 9 (.l 1) (.l 2) (.l 4))<|qf 2 1<|qs 2 1 6 5<|qe))) <| rs 45 (qb 2 2<|qt 4 2 0<|qe) .ret
def F473 : F := mF 2 [.cell 4 (some 2)] none c473
attribute [go_sem] c473 F473
def c474 : C := rs 0 (qB 2 0<|qG 4 z_19<|qG 5 z_19<|qz 6 0<|qe) <| i1 7 (qb 2 3<|qm 1<|qd 499<|qN<|qe) 10 (rs 11 (q1 (.build z_19 [])<|q1 (.build z_19 [])<|qt 4 3 0<|qt 5 3 1<|qz 6 1<|qe) .ret) <| sq (bk 0 (rs 20 (qm 1<|qf 2 0<|qg 0<|ql 2<|qq .gtr 0<|qv 19<|qe) <| cd 19 (r1 25 (qm 1<|qf 2 0<|qg 0<|qs 2 1 2 0<|qf 2 0<|qg 1<|qu 2 5 0<|qe)) <| rs 31 (qf 2 0<|qg 1<|ql 2<|qk .eql 1048576<|qv 30<|qe) <| cd 30 (rs 35 (q1 (.build z_19 [])<|q1 (.build z_19 [])<|qt 4 3 0<|qt 5 3 1<|qz 6 6<|qe) .ret) <| r1 13 (qf 2 0<|qg 1<|ql 2<|qk .add 1<|qf 2 0<|qg 1<|qs 2 1 5 3<|qe))) <| rt 37 (qb 2 3<|qR 2 0 3<|qt 4 3 0<|qt 5 3 2<|qz 6 0<|qe) .ret
def F474 : F := mF 2 [.cell 4 (some 3),.cell 5 (some 3),.t 6] none c474
attribute [go_sem] c474 F474
def l483_0 : C := .loop [] [] [] [] (rs 12 (q3 (.bin .lss (.g 11) (.g 10))<|qe) <| sq (cd 12 .skip <| .exit 0) <| sq (bk 1 (rs 13 (q1 (.iad 1 (.g 9) (.g 11))<|qj<|qv 6<|qe) <| rs 16 (qm 6<|qc 456<|q2 15 (.mov (.l 1))<|qx 0<|qy 1<|qw 7<|qw 8<|qe) <| i1 20 (qm 8<|qK .neq 0<|qe) 21 (rs 22 (qm 8<|qE 2<|qw 3<|qe) .ret) <| r1 23 (qm 4<|qm 7<|q1 (.app 4 1 (.l 0) (.l 1))<|qv 4<|qe))) <| r1 26 (q1 (.bin .add (.g 11) (ci 1))<|qv 11<|qe))
def c483 : C := rs 0 (qE 2<|qz 3 0<|qe) <| rs 4 (q3 (.mko 1)<|qe) <| sq (rs 9 (q3 (.mov (.g 0))<|qH false<|q3 (.mov (ci 0))<|qe) <| bk 0 l483_0) <| rs 27 (qm 4<|q1 (.b2s (.l 0))<|qv 2<|qz 3 0<|qe) .ret
def F483 : F := mF 1 [.t 2,.t 3] none c483
attribute [go_sem] c483 F483
def c484 : C := rs 0 (qE 2<|qe) <| rs 6 (qm 0<|qh true<|qc 456<|q2 5 (.mov (.l 2))<|qx 0<|qy 1<|qw 3<|qD 4<|q1 (.mov (.l 5))<|qe) <| rs 11 (qm 3<|qm 0<|qq .add 0<|qv 2<|qe) .ret
def F484 : F := mF 1 [.t 2] none c484
attribute [go_sem] c484 F484
def c485 : C := rs 0 (qE 2<|qe) <| i1 3 (q3 (.mov (.g 0))<|qe) 3 (rs 2 (q3 (.mov (.c (.str [1])))<|qe) .ret) <| rs 2 (q3 (.mov (.c (.str [0])))<|qe) .ret
def F485 : F := mF 1 [.t 2] none c485
attribute [go_sem] c485 F485
def c486 : C := rs 0 (qB 1 0<|qE 2<|qe) <| rs 10 (qr 1 0<|qc 487<|q2 9 (.mov (.l 2))<|qx 0<|qy 1<|qw 3<|qD 4<|q1 (.mov (.l 5))<|qe) <| rs 16 (qr 1 1<|qc 487<|q2 15 (.mov (.l 2))<|qx 0<|qy 1<|qw 5<|qD 6<|q1 (.mov (.l 5))<|qe) <| rs 22 (qr 1 2<|qc 487<|q2 21 (.mov (.l 2))<|qx 0<|qy 1<|qw 7<|qD 8<|q1 (.mov (.l 5))<|qe) <| rs 27 (qm 3<|qm 5<|qq .add 0<|qm 7<|qq .add 2<|qv 2<|qe) .ret
def F486 : F := mF 1 [.t 2] none c486
attribute [go_sem] c486 F486
def l487_0 : C := .loop [] [] [] [] (lq 12 (qm 6<|qm 4<|qh false<|qQ .lss 0<|qe) 15 0 <| sq (bk 1 (rs 18 (qm 4<|qm 6<|qi 1<|qj<|qv 7<|qe) <| i1 22 (qm 6<|qm 4<|qh false<|qk .sub 1<|qQ .lss 0<|qe) 26 (r1 27 (qm 7<|qk .add 128<|qv 7<|qe)) <| r1 29 (qm 5<|qm 7<|q1 (.conv (.int .u8) (.l 1))<|q1 (.mks 1 1 [.int .u8 0] [(0,.l 2)])<|q1 (.b2s (.l 3))<|qq .add 0<|qv 5<|qe))) <| r1 16 (qm 6<|qk .add 1<|qv 6<|qe))
def c487 : C := rs 0 (qE 2<|qz 3 0<|qe) <| i1 8 (qm 0<|qK .lss 0<|qe) 9 (rs 0 (qE 2<|qz 3 1<|qe) .ret) <| rs 10 (qm 0<|qc 502<|qv 4<|qe) <| rs 0 (qE 5<|qe) <| sq (rs 0 (qz 6 0<|qe) <| bk 0 l487_0) <| rs 35 (qm 5<|qv 2<|qz 3 0<|qe) .ret
def F487 : F := mF 1 [.t 2,.t 3] none c487
attribute [go_sem] c487 F487
def c488 : C := rs 0 (qE 2<|qe) <| rs 3 (qm 0<|qc 503<|qv 2<|qe) .ret
def F488 : F := mF 1 [.t 2] none c488
attribute [go_sem] c488 F488
def l490_0 : C := .loop [] [] [] [] (rs 12 (q3 (.bin .lss (.g 11) (ci 3))<|qe) <| sq (cd 12 .skip <| .exit 0) <| sq (bk 1 (rs 13 (qm 11<|qv 6<|qe) <| rs 15 (qm 0<|qc 491<|q2 14 (.mov (.l 1))<|qx 0<|qy 1<|qY 2 2<|qV 7 3<|qV 8 4<|qV 9 5<|qe) <| i1 20 (qm 9<|qK .neq 0<|qe) 21 (rs 22 (q1 (.build z_19 [])<|qm 9<|qt 2 3 0<|qE 3<|qV 4 1<|qe) .ret) <| r1 24 (qm 6<|qm 7<|qm 8<|q1 (.iada 1 3 (.g 5) (.l 0))<|qs 5 1 3 1<|qV 0 2<|qe))) <| r1 28 (q1 (.bin .add (.g 11) (ci 1))<|qv 11<|qe))
def c490 : C := rs 0 (qG 2 z_19<|qE 3<|qz 4 0<|qe) <| rs 0 (qG 5 z_19<|qe) <| sq (rs 0 (qz 11 0<|qe) <| bk 0 l490_0) <| rs 29 (q1 (.iada 1 3 (.g 5) (ci 0))<|ql 5<|q1 (.iada 1 3 (.g 5) (ci 1))<|ql 5<|q1 (.iada 1 3 (.g 5) (ci 2))<|ql 5<|q1 (.build z_19 [(0,1,.l 1),(1,1,.l 3),(2,1,.l 5)])<|qG 10 z_19<|qs 10 3 7 6<|qe) <| i1 36 (qb 10 3<|qc 28<|qN<|qe) 38 (rs 39 (q1 (.build z_19 [])<|qt 2 3 0<|qE 3<|qz 4 3<|qe) .ret) <| rs 40 (qb 10 3<|qm 0<|qt 2 3 0<|qw 3<|qz 4 0<|qe) .ret
def F490 : F := mF 1 [.cell 2 (some 3),.t 3,.t 4] none c490
attribute [go_sem] c490 F490
def l491_0 : C := .loop [] [] [] [] (rs 11 (q3 (.bin .lss (.g 10) (.g 9))<|qe) <| sq (cd 11 .skip <| .exit 0) <| sq (bk 1 (rs 12 (qm 10<|qv 6<|qe) <| rs 13 (qm 0<|qm 6<|q1 (.idx (.l 0) (.l 1))<|q1 (.bin .and (.l 2) (.c (.int .u8 127)))<|q1 (.conv (.int .i64) (.l 3))<|qv 7<|qe) <| bk 2 (rs 29 (qm 6<|qk .gtr 8<|ya<|qm 0<|qm 6<|q1 (.idx (.l 3) (.l 4))<|q1 (.bin .geq (.l 5) (.c (.int .u8 128)))<|yo<|qm 7<|qk .gtr 0<|y1 2<|qo 7<|za 2<|qv 28<|qe) <| cd 28 (rs 41 (qm 0<|qc 505<|qz 2 0<|qE 3<|qV 4 1<|qe) .ret) <| rs 44 (qm 0<|qm 6<|q1 (.idx (.l 0) (.l 1))<|q1 (.bin .geq (.l 2) (.c (.int .u8 128)))<|qv 43<|qe) <| cd 43 (r1 48 (qm 5<|qm 7<|qm 6<|q1 (.bin .mul (ci 7) (.l 2))<|q1 (.sh .shl (.l 1) (.l 3))<|qq .or 0<|qv 5<|qe)) <| rs 55 (qm 7<|qk .eql 0<|ya<|qm 6<|qk .gtr 0<|za 2<|qv 54<|qe) <| cd 54 (rs 0 (qz 2 0<|qE 3<|qz 4 3<|qe) .ret) <| rt 18 (qm 5<|qm 7<|qm 6<|q1 (.bin .mul (ci 7) (.l 2))<|q1 (.sh .shl (.l 1) (.l 3))<|qq .or 0<|qm 0<|qm 6<|qk .add 1<|q1 (.sl true 0 (.l 6) (some (.l 8)) none)<|qV 2 5<|qw 3<|qz 4 0<|qe) .ret))) <| r1 61 (q1 (.bin .add (.g 10) (ci 1))<|qv 10<|qe))
def c491 : C := rs 0 (qz 2 0<|qE 3<|qz 4 0<|qe) <| rs 0 (qz 5 0<|qe) <| sq (rs 8 (qm 0<|qH true<|q3 (.mov (ci 0))<|qe) <| bk 0 l491_0) <| rs 0 (qz 2 0<|qE 3<|qz 4 2<|qe) .ret
def F491 : F := mF 1 [.t 2,.t 3,.t 4] none c491
attribute [go_sem] c491 F491
def c492 : C := rs 0 (qE 2<|qe) <| rs 7 (qm 0<|q1 (.nilc (.l 0))<|qg 0<|ql 0<|qc 506<|q2 6 (.mov (.l 4))<|qx 0<|qy 1<|qY 5 2<|qV 3 6<|qV 4 7<|qV 5 8<|qe) <| i1 15 (qm 0<|q1 (.nilc (.l 0))<|qg 1<|ql 0<|yo<|qm 5<|qk .neq 0<|zO 4<|qe) 22 (rs 23 (qm 0<|q1 (.nilc (.l 0))<|qg 1<|q5 (.store (.v 0) 1 (.l 2) (cb true))<|qe) <| rs 0 (qE 2<|qe) .ret) <| rs 26 (qm 0<|qm 4<|q1 (.nilc (.l 0))<|qg 0<|qs 0 1 3 1<|qe) <| rs 30 (qm 3<|qv 2<|qe) .ret
def F492 : F := mF 1 [.t 2] none c492
attribute [go_sem] c492 F492
def c493 : C := rs 0 (qF 2<|qe) <| rs 7 (qm 0<|q1 (.nilc (.l 0))<|qg 0<|ql 0<|qc 507<|q2 6 (.mov (.l 4))<|qx 0<|qy 1<|qY 5 2<|qV 3 6<|qV 4 7<|qV 5 8<|qe) <| i1 15 (qm 0<|q1 (.nilc (.l 0))<|qg 1<|ql 0<|yo<|qm 5<|qk .neq 0<|zO 4<|qe) 22 (rs 23 (qm 0<|q1 (.nilc (.l 0))<|qg 1<|q5 (.store (.v 0) 1 (.l 2) (cb true))<|qe) <| rs 0 (qF 2<|qe) .ret) <| rs 26 (qm 0<|qm 4<|q1 (.nilc (.l 0))<|qg 0<|qs 0 1 3 1<|qe) <| rs 30 (qm 3<|qv 2<|qe) .ret
def F493 : F := mF 1 [.t 2] none c493
attribute [go_sem] c493 F493
def c496 : C := rs 0 (qB 2 0<|qF 3<|qe) <| rs 4 (qr 2 0<|qf 1 0<|qj<|qq .geq 1<|qv 3<|qe) .ret
def F496 : F := mF 2 [.t 3] none c496
attribute [go_sem] c496 F496
def c499 : C := rs 0 (qB 2 0<|qF 4<|qe) <| rs 5 (qR 2 0 3<|qc 28<|ya<|qm 1<|qk .geq 0<|za 3<|ya<|qm 1<|qk .leq 1099511627776<|za 7<|qv 4<|qe) .ret
def F499 : F := mF 2 [.t 4] none c499
attribute [go_sem] c499 F499
def l502_0 : C := .loop [] [] [] [] (lq 9 (qm 0<|qK .gtr 0<|qe) 10 0 <| bk 1 (rs 11 (qm 3<|qm 0<|qk .rem 128<|q1 (.mks 1 1 [.int .i64 0] [(0,.l 2)])<|q1 (.app 6 1 (.l 0) (.l 3))<|qv 3<|qe) <| r1 16 (qm 0<|qk .quo 128<|qv 0<|qe)))
def c502 : C := rs 0 (qS 2 1<|qe) <| rs 4 (qm 0<|qk .rem 128<|q1 (.mkb 1 1 [.int .i64 0] [(0,.l 1)])<|qv 3<|qe) <| rs 7 (qm 0<|qk .quo 128<|qv 0<|qe) <| sq (bk 0 l502_0) <| rs 18 (qm 3<|qv 2<|qe) .ret
def F502 : F := mF 1 [.t 2] none c502
attribute [go_sem] c502 F502
def c503 : C := rs 0 (qE 2<|qe) <| rs 6 (qm 0<|qh true<|qc 487<|q2 5 (.mov (.l 2))<|qx 0<|qy 1<|qw 3<|qD 4<|q1 (.mov (.l 5))<|qe) <| rs 11 (qm 3<|qm 0<|qq .add 0<|qv 2<|qe) .ret
def F503 : F := mF 1 [.t 2] none c503
attribute [go_sem] c503 F503
def c504 : C := rs 0 (qE 2<|qe) <| i1 3 (q3 (.mov (.g 0))<|qe) 3 (rs 4 (q1 (.mks 1 1 [.int .u8 0] [(0,.c (.int .u8 1))])<|q1 (.b2s (.l 0))<|qv 2<|qe) .ret) <| rs 6 (q1 (.mks 1 1 [.int .u8 0] [(0,.c (.int .u8 0))])<|q1 (.b2s (.l 0))<|qv 2<|qe) .ret
def F504 : F := mF 1 [.t 2] none c504
attribute [go_sem] c504 F504
def l505_0 : C := .loop [] [] [] [] (rs 7 (q3 (.bin .lss (.g 6) (.g 5))<|qe) <| sq (cd 7 .skip <| .exit 0) <| sq (bk 1 (rs 8 (qm 6<|qv 3<|qe) <| rs 9 (qm 0<|qm 3<|q1 (.idx (.l 0) (.l 1))<|q3 (.bin .lss (.l 2) (.c (.int .u8 128)))<|qe) <| cd 12 (rs 0 (qz 2 3<|qe) .ret) .skip)) <| r1 13 (q1 (.bin .add (.g 6) (ci 1))<|qv 6<|qe))
def c505 : C := rs 0 (qz 2 0<|qe) <| sq (rs 4 (qm 0<|qH true<|q3 (.mov (ci 0))<|qe) <| bk 0 l505_0) <| rs 0 (qz 2 2<|qe) .ret
def F505 : F := mF 1 [.t 2] none c505
attribute [go_sem] c505 F505
def c506 : C := rs 0 (qE 2<|qE 3<|qz 4 0<|qe) <| rs 9 (qm 0<|qc 491<|q2 8 (.mov (.l 1))<|qx 0<|qy 1<|qY 2 2<|qV 5 3<|qV 6 4<|qV 7 5<|qe) <| i1 14 (qm 7<|qK .neq 0<|qe) 15 (rs 16 (qm 7<|qE 2<|qE 3<|qV 4 0<|qe) .ret) <| i1 17 (qm 6<|qh true<|qm 5<|qQ .lss 1<|qe) 20 (rs 0 (qE 2<|qE 3<|qz 4 2<|qe) .ret) <| rt 21 (qm 6<|qm 5<|q1 (.sl true 0 (.l 0) none (some (.l 1)))<|qm 6<|qm 5<|q1 (.sl true 0 (.l 3) (some (.l 4)) none)<|qV 2 2<|qw 3<|qz 4 0<|qe) .ret
def F506 : F := mF 1 [.t 2,.t 3,.t 4] none c506
attribute [go_sem] c506 F506
def c507 : C := rs 0 (qF 2<|qE 3<|qz 4 0<|qe) <| sq (bk 0 (rs 6 (qm 0<|q1 (.bin .eql (.l 0) (.c (.str [])))<|qv 5<|qe) <| cd 5 (rs 0 (qF 2<|qE 3<|qz 4 2<|qe) .ret) <| rs 9 (qm 0<|q1 (.idx (.l 0) (ci 0))<|q1 (.bin .gtr (.l 1) (.c (.int .u8 1)))<|qv 8<|qe) <| cd 8 (rs 0 (qF 2<|qE 3<|qz 4 3<|qe) .ret) .skip)) <| rt 12 (qm 0<|q1 (.idx (.l 0) (ci 0))<|q1 (.bin .eql (.l 1) (.c (.int .u8 1)))<|qm 0<|q1 (.sl true 0 (.l 3) (some (ci 1)) none)<|qV 2 2<|qw 3<|qz 4 0<|qe) .ret
def F507 : F := mF 1 [.t 2,.t 3,.t 4] none c507
attribute [go_sem] c507 F507
def c514 : C := rs 0 (qB 1 0<|qF 2<|qe) <| rs 8 (qb 1 29<|qc 515<|qG 3 z_13<|qs 3 29 2 1<|qe) <| i1 10 (qb 3 29<|qc 325<|qN<|qe) 12 (rs 13 (q0 510<|qv 2<|qe) .ret) <| rs 15 (qb 1 29<|qc 516<|q2 14 (.mov (.l 1))<|qx 0<|qy 1<|qw 4<|qw 5<|qe) <| i1 19 (qb 3 29<|qc 329<|qN<|qe) 21 (rs 22 (qm 4<|q1 (.bin .eql (.l 0) (.c (.str [])))<|ya<|qm 5<|qk .eql 1<|za 2<|ya<|q0 510<|za 6<|qv 2<|qe) .ret) <| rs 32 (qm 4<|qc 517<|q2 31 (.mov (.l 1))<|qx 0<|qy 1<|qG 6 z_13<|qs 6 29 5 3<|qV 7 4<|qe) <| rt 36 (qm 4<|qb 3 29<|qc 518<|qq .eql 0<|ya<|qm 5<|qk .eql 0<|za 4<|ya<|qm 7<|qk .eql 0<|za 8<|ya<|qb 6 29<|qc 515<|qb 3 29<|qd 332<|za 12<|ya<|q0 510<|za 18<|qv 2<|qe) .ret
def F514 : F := mF 1 [.t 2] none c514
attribute [go_sem] c514 F514
def c510 : C := rs 0 (qF 0<|qe) <| rs 9 (qC 522 [ci 1]<|q2 8 (.mov (.l 0))<|qx 0<|qy 1<|qG 1 z_26<|qs 1 38 4 2<|qV 2 3<|qe) <| rs 13 (qb 1 38<|qC 523 [.l 0,ci 1]<|q1 (.build z_23 [(0,1,.c (.int .i64 1)),(1,1,.c (.int .i64 1)),(2,1,.c (.int .i64 1)),(3,1,.c (.str [97]))])<|q1 (.build z_20 [(0,1,.c (.int .i64 1)),(1,1,.c (.int .i64 11)),(2,1,.c (.int .i64 1)),(7,1,.c (.int .i64 1)),(3,1,.c (.int .i64 1)),(4,1,.c (.int .i64 1)),(13,12,.l 2)])<|qC 524 [.l 1,ci 5,.l 3]<|q2 12 (.mov (.l 4))<|qx 0<|qy 1<|qY 5 2<|qG 3 z_26<|qs 3 38 9 6<|qD 4<|q1 (.mov (.l 7))<|q3 (.mov (.l 8))<|qe) <| rs 22 (qb 3 38<|qC 525 [.l 0,ci 0]<|q2 21 (.mov (.l 1))<|qx 0<|qy 1<|qG 6 z_26<|qs 6 38 5 3<|qV 7 4<|qe) <| rs 26 (qm 2<|qk .eql 0<|ya<|qm 5<|qk .eql 16<|za 2<|ya<|qr 3 37<|qn<|za 6<|ya<|qm 7<|qk .eql 0<|za 11<|ya<|qr 6 37<|za 15<|ya<|qf 1 1<|qg 0<|ql 1<|qh true<|qk .gtr 0<|za 19<|ya<|qf 6 1<|qg 0<|ql 6<|qf 1 1<|qg 0<|ql 1<|qq .eql 29<|za 26<|qv 0<|qe) .ret
def F510 : F := mF 0 [.t 0] none c510
attribute [go_sem] c510 F510
def l511_1 : C := .loop [] [4,0,10400] [8] [20700] (rs 65 (q3 (.bin .lss (.g 64) (.g 63))<|qe) <| sq (cd 65 .skip <| .exit 2) <| sq (bk 3 (rs 66 (q1 (.iad 36 (.g 62) (.g 64))<|qJ 36<|qG 8 z_20<|qs 8 36 2 1<|qe) <| rs 69 (qb 8 36<|qc 529<|q2 68 (.mov (.l 1))<|qx 0<|qy 1<|qw 9<|qD 10<|q1 (.mov (.l 4))<|qe) <| r1 73 (qm 9<|q1 (.mks 1 1 [.str []] [(0,.l 0)])<|q1 (.rcall 528 [.g 4,.l 1] 0 4 20700)<|qe))) <| r1 76 (q1 (.bin .add (.g 64) (ci 1))<|qv 64<|qe))
def l511_0 : C := .loop [] [4,0,10400] [6,8] [20100,20200,20300,20400,20500,20600,20700] (rs 25 (q3 (.bin .lss (.g 24) (.g 23))<|qe) <| sq (cd 25 .skip <| .exit 0) <| sq (bk 1 (rs 26 (q1 (.iad 9 (.g 22) (.g 24))<|qJ 9<|qG 6 z_16<|qs 6 9 2 1<|qe) <| rs 28 (qr 6 0<|qf 6 1<|qg 1<|ql 6<|q1 (.mks 1 2 [.int .i64 0] [(0,.l 1),(1,.l 4)])<|q1 (.rcall 526 [.g 4,.l 5] 0 4 20100)<|qe) <| rs 35 (qf 6 1<|qg 2<|ql 6<|q1 (.rcall 527 [.g 4,.l 2] 0 4 20200)<|qe) <| rs 39 (qf 6 1<|qg 3<|ql 6<|q1 (.mks 1 1 [.int .i64 0] [(0,.l 2)])<|q1 (.rcall 526 [.g 4,.l 3] 0 4 20300)<|qe) <| rs 44 (qf 6 1<|qg 4<|ql 6<|qf 6 1<|qg 5<|ql 6<|q1 (.mks 1 2 [.str []] [(0,.l 2),(1,.l 5)])<|q1 (.rcall 528 [.g 4,.l 6] 0 4 20400)<|qe) <| rs 52 (qf 6 1<|qg 6<|ql 6<|q1 (.rcall 527 [.g 4,.l 2] 0 4 20500)<|qe) <| rs 56 (qr 6 8<|qh false<|q1 (.mks 1 1 [.int .i64 0] [(0,.l 2)])<|q1 (.rcall 526 [.g 4,.l 3] 0 4 20600)<|qe) <| rs 61 (qf 6 8<|q3 (.load (.v 6) none (.l 0))<|qH false<|q3 (.mov (ci 0))<|qe) <| bk 2 l511_1)) <| r1 77 (q1 (.bin .add (.g 24) (ci 1))<|qv 24<|qe))
def c511 : C := rs 0 (qB 1 0<|qE 2<|qz 3 0<|qe) <| i1 11 (qb 1 2<|qc 408<|qN<|qe) 13 (rs 0 (qE 2<|qz 3 1<|qe) .ret) <| rs 4 (q3 (.allo [.nslice 1] 10400)<|qe) <| rs 14 (qr 1 0<|qr 1 1<|qh false<|q1 (.mks 1 2 [.int .i64 0] [(0,.l 1),(1,.l 4)])<|q1 (.rcall 526 [.g 4,.l 5] 0 4 20000)<|qe) <| sq (rs 21 (qf 1 1<|q3 (.load (.v 1) none (.l 0))<|qH false<|q3 (.mov (ci 0))<|qe) <| bk 0 l511_0) <| rs 78 (qr 4 0<|q1 (.b2s (.l 1))<|qv 2<|qz 3 0<|qe) .ret
def F511 : F := mF 1 [.t 2,.t 3] none c511
attribute [go_sem] c511 F511
def l512_0 : C := .loop [] [] [] [] (rs 15 (q3 (.bin .lss (.g 14) (.g 13))<|qe) <| sq (cd 15 .skip <| .exit 0) <| sq (bk 1 (r2 16 (qr 5 1<|qm 4<|qr 5 0<|q1 (.rcall 532 [.l 2,.l 4] 0 8 20200)<|q1 (.mks 9 1 z_16 [(0,.l 5)])<|q1 (.app 23 9 (.l 1) (.l 6))<|qf 5 1<|qs 5 1 8 7<|qe))) <| r1 25 (q1 (.bin .add (.g 14) (ci 1))<|qv 14<|qe))
def c512 : C := rs 0 (qG 2 z_17<|qz 3 0<|qe) <| rs 6 (qm 0<|q1 (.build z_21 [(0,1,.l 0)])<|q1 (.box (.l 1))<|qv 4<|qe) <| rs 9 (qm 4<|q1 (.rcall 530 [.l 0] 0 8 20000)<|q1 (.build [.int .i64 0,.nslice 9] [(0,1,.l 1)])<|qG 5 z_18<|qs 5 2 3 2<|qe) <| sq (rs 12 (qm 4<|q3 (.rcall 531 [.l 0] 0 8 20100)<|q3 (.mov (ci 0))<|qe) <| bk 0 l512_0) <| i1 26 (qm 4<|q1 (.nilc (.l 0))<|qg 1<|ql 8<|yo<|qm 4<|q1 (.nilc (.l 5))<|qg 0<|ql 8<|q1 (.bin .neq (.l 8) (.c (.str [])))<|zo 4<|yo<|qb 5 2<|q1 (.call (.k 408) .borrow none [.l 12])<|qn<|zO 11<|qe) 41 (rs 42 (q1 (.build z_17 [])<|qt 2 2 0<|qz 3 3<|qe) .ret) <| rs 43 (qb 5 2<|qt 2 2 0<|qz 3 0<|qe) .ret
def F512 : F := mF 1 [.cell 2 (some 2),.t 3] none c512
attribute [go_sem] c512 F512
def l515_0 : C := .loop [] [] [5] [] (rs 25 (q3 (.bin .lss (.g 24) (.g 23))<|qe) <| sq (cd 25 .skip <| .exit 0) <| sq (bk 1 (rs 26 (q1 (.iad 3 (.g 22) (.g 24))<|qJ 3<|qG 5 z_11<|qs 5 3 2 1<|qe) <| r1 28 (qr 3 1<|qb 5 3<|q1 (.mks 3 1 z_11 [(0,.l 2)])<|q1 (.app 32 3 (.l 1) (.l 3))<|qf 3 1<|qs 3 1 5 4<|qe))) <| r1 34 (q1 (.bin .add (.g 24) (ci 1))<|qv 24<|qe))
def l515_1 : C := .loop [] [] [7] [] (rs 39 (q3 (.bin .lss (.g 38) (.g 37))<|qe) <| sq (cd 39 .skip <| .exit 2) <| sq (bk 3 (rs 40 (q1 (.iad 7 (.g 36) (.g 38))<|qJ 7<|qG 7 z_12<|qs 7 7 2 1<|qe) <| r1 42 (qr 3 28<|qb 7 7<|q1 (.mks 7 1 z_12 [(0,.l 2)])<|q1 (.app 46 7 (.l 1) (.l 3))<|qf 3 28<|qs 3 1 5 4<|qe))) <| r1 48 (q1 (.bin .add (.g 38) (ci 1))<|qv 38<|qe))
def c515 : C := rs 0 (qB 1 0<|qG 2 z_13<|qe) <| rs 8 (qr 1 0<|qr 1 2<|qr 1 3<|qr 1 4<|qR 1 5 3<|qR 1 8 20<|q1 (.build [.slice 5 [],.nslice 3,.int .i64 0,.slice 5 [],.slice 3 [],.int .i64 0,.int .i64 0,.int .i64 0,.int .i64 0,.int .i64 0,.int .i64 0,.int .i64 0,.int .i64 0,.int .i64 0,.int .i64 0,.int .i64 0,.str [],.slice 1 [],.int .i64 0,.int .i64 0,.int .i64 0,.str [],.str [],.slice 1 [],.int .i64 0,.int .i64 0,.int .i64 0,.slice 1 [],.nslice 7] [(0,1,.l 1),(2,1,.l 3),(3,1,.l 5),(4,1,.l 7),(5,3,.l 9),(8,20,.l 11)])<|qG 3 z_14<|qs 3 29 13 12<|qe) <| sq (rs 21 (qf 1 1<|q3 (.load (.v 1) none (.l 0))<|qH false<|q3 (.mov (ci 0))<|qe) <| bk 0 l515_0) <| sq (rs 35 (qf 1 28<|q3 (.load (.v 1) none (.l 0))<|qH false<|q3 (.mov (ci 0))<|qe) <| bk 2 l515_1) <| rs 49 (qb 3 29<|qt 2 29 0<|qe) .ret
def F515 : F := mF 1 [.cell 2 (some 29)] none c515
attribute [go_sem] c515 F515
def l516_0 : C := .loop [] [4,0,10400] [6] [20100,20200] (rs 25 (q3 (.bin .lss (.g 24) (.g 23))<|qe) <| sq (cd 25 .skip <| .exit 0) <| sq (bk 1 (rs 26 (q1 (.iad 5 (.g 22) (.g 24))<|qJ 5<|qG 6 z_0<|qs 6 5 2 1<|qe) <| rs 28 (qf 6 0<|qg 0<|ql 6<|qf 6 0<|qg 1<|ql 6<|q1 (.mks 1 2 [.str []] [(0,.l 2),(1,.l 5)])<|q1 (.rcall 528 [.g 4,.l 6] 0 4 20100)<|qe) <| r1 36 (qr 6 2<|qr 6 3<|qr 6 4<|q1 (.mks 1 3 [.int .i64 0] [(0,.l 1),(1,.l 3),(2,.l 5)])<|q1 (.rcall 526 [.g 4,.l 6] 0 4 20200)<|qe))) <| r1 44 (q1 (.bin .add (.g 24) (ci 1))<|qv 24<|qe))
def l516_1 : C := .loop [] [4,0,10400] [8] [20400,20500] (rs 54 (q3 (.bin .lss (.g 53) (.g 52))<|qe) <| sq (cd 54 .skip <| .exit 2) <| sq (bk 3 (rs 55 (q1 (.iad 3 (.g 51) (.g 53))<|qJ 3<|qG 8 z_11<|qs 8 3 2 1<|qe) <| rs 57 (qr 8 0<|q1 (.mks 1 1 [.int .i64 0] [(0,.l 1)])<|q1 (.rcall 526 [.g 4,.l 2] 0 4 20400)<|qe) <| rs 61 (qr 8 1<|q1 (.rcall 527 [.g 4,.l 1] 0 4 20500)<|qe) <| r2 64 (qr 4 0<|qr 8 2<|qc 485<|q1 (.appd 1 (.l 1) (.l 4))<|qf 4 0<|qs 4 1 6 5<|qe))) <| r1 71 (q1 (.bin .add (.g 53) (ci 1))<|qv 53<|qe))
def l516_2 : C := .loop [] [4,0,10400] [10] [20700,20800] (rs 83 (q3 (.bin .lss (.g 82) (.g 81))<|qe) <| sq (cd 83 .skip <| .exit 4) <| sq (bk 5 (rs 84 (q1 (.iad 5 (.g 80) (.g 82))<|qJ 5<|qG 10 z_10<|qs 10 5 2 1<|qe) <| rs 86 (qr 10 0<|qr 10 1<|q1 (.mks 1 2 [.int .i64 0] [(0,.l 1),(1,.l 3)])<|q1 (.rcall 526 [.g 4,.l 4] 0 4 20700)<|qe) <| r1 92 (qR 10 2 3<|q1 (.mks 3 1 z_19 [(0,.l 1)])<|q1 (.rcall 537 [.g 4,.l 2] 0 4 20800)<|qe))) <| r1 96 (q1 (.bin .add (.g 82) (ci 1))<|qv 82<|qe))
def l516_3 : C := .loop [] [4,0,10400] [12] [21400,21500,21600] (rs 121 (q3 (.bin .lss (.g 120) (.g 119))<|qe) <| sq (cd 121 .skip <| .exit 6) <| sq (bk 7 (rs 122 (q1 (.iad 7 (.g 118) (.g 120))<|qJ 7<|qG 12 z_12<|qs 12 7 2 1<|qe) <| rs 124 (qr 12 0<|qr 12 1<|qr 12 2<|q1 (.mks 1 3 [.int .i64 0] [(0,.l 1),(1,.l 3),(2,.l 5)])<|q1 (.rcall 526 [.g 4,.l 6] 0 4 21400)<|qe) <| rs 132 (qR 12 3 3<|q1 (.mks 3 1 z_19 [(0,.l 1)])<|q1 (.rcall 537 [.g 4,.l 2] 0 4 21500)<|qe) <| r1 136 (qr 12 6<|q1 (.mks 1 1 [.int .i64 0] [(0,.l 1)])<|q1 (.rcall 526 [.g 4,.l 2] 0 4 21600)<|qe))) <| r1 140 (q1 (.bin .add (.g 120) (ci 1))<|qv 120<|qe))
def c516 : C := rs 0 (qB 1 0<|qE 2<|qz 3 0<|qe) <| i1 13 (qb 1 29<|qc 328<|qN<|qe) 15 (rs 0 (qE 2<|qz 3 1<|qe) .ret) <| rs 4 (q3 (.allo [.nslice 1] 10400)<|qe) <| rs 16 (qr 1 0<|qh false<|q1 (.mks 1 1 [.int .i64 0] [(0,.l 2)])<|q1 (.rcall 526 [.g 4,.l 3] 0 4 20000)<|qe) <| sq (rs 21 (qf 1 0<|q3 (.load (.v 1) none (.l 0))<|qH false<|q3 (.mov (ci 0))<|qe) <| bk 0 l516_0) <| rs 45 (qr 1 1<|qh false<|q1 (.mks 1 1 [.int .i64 0] [(0,.l 2)])<|q1 (.rcall 526 [.g 4,.l 3] 0 4 20300)<|qe) <| sq (rs 50 (qf 1 1<|q3 (.load (.v 1) none (.l 0))<|qH false<|q3 (.mov (ci 0))<|qe) <| bk 2 l516_1) <| rs 72 (qr 1 2<|qr 1 3<|qh false<|q1 (.mks 1 2 [.int .i64 0] [(0,.l 1),(1,.l 4)])<|q1 (.rcall 526 [.g 4,.l 5] 0 4 20600)<|qe) <| sq (rs 79 (qf 1 3<|q3 (.load (.v 1) none (.l 0))<|qH false<|q3 (.mov (ci 0))<|qe) <| bk 4 l516_2) <| rs 97 (qr 1 4<|qh false<|q1 (.mks 1 1 [.int .i64 0] [(0,.l 2)])<|q1 (.rcall 526 [.g 4,.l 3] 0 4 20900)<|qe) <| rs 102 (qr 1 4<|q1 (.rcall 537 [.g 4,.l 1] 0 4 21000)<|qe) <| rs 105 (qR 1 5 3<|q1 (.mks 3 1 z_19 [(0,.l 1)])<|q1 (.rcall 537 [.g 4,.l 2] 0 4 21100)<|qe) <| rs 109 (qR 1 8 20<|q1 (.rcall 538 [.g 4,.l 1] 0 4 21200)<|qe) <| rs 112 (qr 1 28<|qh false<|q1 (.mks 1 1 [.int .i64 0] [(0,.l 2)])<|q1 (.rcall 526 [.g 4,.l 3] 0 4 21300)<|qe) <| sq (rs 117 (qf 1 28<|q3 (.load (.v 1) none (.l 0))<|qH false<|q3 (.mov (ci 0))<|qe) <| bk 6 l516_3) <| rs 141 (qr 4 0<|q1 (.b2s (.l 1))<|qv 2<|qz 3 0<|qe) .ret
def F516 : F := mF 1 [.t 2,.t 3] none c516
attribute [go_sem] c516 F516
def l517_0 : C := .loop [] [] [6] [] (rs 13 (q3 (.bin .lss (.g 12) (.g 11))<|qe) <| sq (cd 13 .skip <| .exit 0) <| sq (bk 1 (rs 14 (qm 4<|q1 (.rcall 539 [.l 0] 0 9 20100)<|qm 4<|q1 (.rcall 539 [.l 2] 0 9 20200)<|q1 (.build z_1 [(0,1,.l 1),(1,1,.l 3)])<|q1 (.build z_0 [(0,2,.l 4)])<|qG 6 z_0<|qs 6 5 6 5<|qe) <| rs 20 (qm 4<|q1 (.rcall 530 [.l 0] 0 9 20300)<|qm 4<|q1 (.rcall 530 [.l 2] 0 9 20400)<|qm 4<|q1 (.rcall 530 [.l 4] 0 9 20500)<|qf 6 2<|qs 6 1 6 1<|qf 6 3<|qs 6 1 8 3<|qf 6 4<|qs 6 1 10 5<|qe) <| r1 29 (qr 5 0<|qb 6 5<|q1 (.mks 5 1 z_0 [(0,.l 2)])<|q1 (.app 33 5 (.l 1) (.l 3))<|qf 5 0<|qs 5 1 5 4<|qe))) <| r1 35 (q1 (.bin .add (.g 12) (ci 1))<|qv 12<|qe))
def l517_1 : C := .loop [] [] [] [] (rs 39 (q3 (.bin .lss (.g 38) (.g 37))<|qe) <| sq (cd 39 .skip <| .exit 2) <| sq (bk 3 (r2 40 (qr 5 1<|qm 4<|q1 (.rcall 530 [.l 2] 0 9 20700)<|qm 4<|q1 (.rcall 540 [.l 4] 0 9 20800)<|qm 4<|q1 (.rcall 541 [.l 6] 0 9 20900)<|q1 (.build z_11 [(0,1,.l 3),(1,1,.l 5),(2,1,.l 7)])<|q1 (.mks 3 1 z_11 [(0,.l 8)])<|q1 (.app 50 3 (.l 1) (.l 9))<|qf 5 1<|qs 5 1 11 10<|qe))) <| r1 52 (q1 (.bin .add (.g 38) (ci 1))<|qv 38<|qe))
def l517_2 : C := .loop [] [] [] [] (rs 59 (q3 (.bin .lss (.g 58) (.g 57))<|qe) <| sq (cd 59 .skip <| .exit 4) <| sq (bk 5 (r2 60 (qr 5 3<|qm 4<|q1 (.rcall 530 [.l 2] 0 9 21200)<|qm 4<|q1 (.rcall 530 [.l 4] 0 9 21300)<|qm 4<|q1 (.rcall 542 [.l 6] 0 9 21400)<|q1 (.build z_10 [(0,1,.l 3),(1,1,.l 5),(2,3,.l 7)])<|q1 (.mks 5 1 z_10 [(0,.l 8)])<|q1 (.app 70 5 (.l 1) (.l 9))<|qf 5 3<|qs 5 1 11 10<|qe))) <| r1 72 (q1 (.bin .add (.g 58) (ci 1))<|qv 58<|qe))
def l517_3 : C := .loop [] [] [] [] (rs 76 (q3 (.bin .lss (.g 75) (.g 74))<|qe) <| sq (cd 76 .skip <| .exit 6) <| sq (bk 7 (r2 77 (qr 5 4<|qm 4<|q1 (.rcall 542 [.l 2] 0 9 21600)<|q1 (.mks 3 1 z_19 [(0,.l 3)])<|q1 (.app 82 3 (.l 1) (.l 4))<|qf 5 4<|qs 5 1 6 5<|qe))) <| r1 84 (q1 (.bin .add (.g 75) (ci 1))<|qv 75<|qe))
def l517_4 : C := .loop [] [] [] [] (rs 94 (q3 (.bin .lss (.g 93) (.g 92))<|qe) <| sq (cd 94 .skip <| .exit 8) <| sq (bk 9 (r2 95 (qr 5 28<|qm 4<|q1 (.rcall 530 [.l 2] 0 9 22000)<|qm 4<|q1 (.rcall 530 [.l 4] 0 9 22100)<|qm 4<|q1 (.rcall 530 [.l 6] 0 9 22200)<|qm 4<|q1 (.rcall 542 [.l 8] 0 9 22300)<|qm 4<|q1 (.rcall 530 [.l 10] 0 9 22400)<|q1 (.build z_12 [(0,1,.l 3),(1,1,.l 5),(2,1,.l 7),(3,3,.l 9),(6,1,.l 11)])<|q1 (.mks 7 1 z_12 [(0,.l 12)])<|q1 (.app 109 7 (.l 1) (.l 13))<|qf 5 28<|qs 5 1 15 14<|qe))) <| r1 111 (q1 (.bin .add (.g 93) (ci 1))<|qv 93<|qe))
def c517 : C := rs 0 (qG 2 z_13<|qz 3 0<|qe) <| rs 7 (qm 0<|q1 (.build z_21 [(0,1,.l 0)])<|q1 (.box (.l 1))<|qv 4<|qe) <| rs 0 (qG 5 z_27<|qe) <| sq (rs 10 (qm 4<|q3 (.rcall 531 [.l 0] 0 9 20000)<|q3 (.mov (ci 0))<|qe) <| bk 0 l517_0) <| sq (rs 36 (qm 4<|q3 (.rcall 531 [.l 0] 0 9 20600)<|q3 (.mov (ci 0))<|qe) <| bk 2 l517_1) <| rs 53 (qm 4<|q1 (.rcall 530 [.l 0] 0 9 21000)<|qf 5 2<|qs 5 1 2 1<|qe) <| sq (rs 56 (qm 4<|q3 (.rcall 531 [.l 0] 0 9 21100)<|q3 (.mov (ci 0))<|qe) <| bk 4 l517_2) <| sq (rs 73 (qm 4<|q3 (.rcall 531 [.l 0] 0 9 21500)<|q3 (.mov (ci 0))<|qe) <| bk 6 l517_3) <| rs 85 (qm 4<|q1 (.rcall 542 [.l 0] 0 9 21700)<|qm 4<|q1 (.rcall 543 [.l 2] 0 9 21800)<|qf 5 5<|qs 5 3 4 1<|qf 5 8<|qs 5 20 6 3<|qe) <| sq (rs 91 (qm 4<|q3 (.rcall 531 [.l 0] 0 9 21900)<|q3 (.mov (ci 0))<|qe) <| bk 8 l517_4) <| i1 112 (qm 4<|q1 (.nilc (.l 0))<|qg 1<|ql 9<|yo<|qm 4<|q1 (.nilc (.l 5))<|qg 0<|ql 9<|q1 (.bin .neq (.l 8) (.c (.str [])))<|zo 4<|yo<|qb 5 29<|q1 (.call (.k 328) .borrow none [.l 12])<|qn<|zO 11<|qe) 127 (rs 128 (q1 (.build z_13 [])<|qt 2 29 0<|qz 3 3<|qe) .ret) <| rs 129 (qb 5 29<|qt 2 29 0<|qz 3 0<|qe) .ret
def F517 : F := mF 1 [.cell 2 (some 29),.t 3] none c517
attribute [go_sem] c517 F517
def l518_0 : C := .loop [] [] [5] [] (lq 17 (qm 4<|qr 1 0<|qh false<|qQ .lss 0<|qe) 21 0 <| sq (bk 1 (rs 24 (qr 1 0<|qm 4<|qi 5<|qJ 5<|qG 5 z_0<|qs 5 5 5 4<|qe) <| r2 29 (qm 3<|qf 5 0<|qg 0<|ql 5<|qc 535<|qq .add 0<|qf 5 0<|qg 1<|ql 5<|qc 535<|qq .add 5<|qr 5 2<|qc 533<|qq .add 10<|qr 5 3<|qc 533<|qq .add 14<|qr 5 4<|qc 533<|qq .add 18<|qv 3<|qe))) <| r1 22 (qm 4<|qk .add 1<|qv 4<|qe))
def l518_1 : C := .loop [] [] [] [] (lq 58 (qm 6<|qr 1 1<|qh false<|qQ .lss 0<|qe) 62 2 <| sq (bk 3 (r2 65 (qm 3<|qr 1 1<|qm 6<|qi 3<|qg 0<|qj<|qc 533<|qq .add 0<|qr 1 1<|qm 6<|qi 3<|qg 1<|qj<|qc 534<|qq .add 8<|qr 1 1<|qm 6<|qi 3<|qg 2<|qj<|qc 504<|qq .add 16<|qv 3<|qe))) <| r1 63 (qm 6<|qk .add 1<|qv 6<|qe))
def l518_2 : C := .loop [] [] [] [] (lq 100 (qm 7<|qr 1 3<|qh false<|qQ .lss 0<|qe) 104 4 <| sq (bk 5 (r2 107 (qm 3<|qr 1 3<|qm 7<|qi 5<|qg 0<|qj<|qc 533<|qq .add 0<|qr 1 3<|qm 7<|qi 5<|qg 1<|qj<|qc 533<|qq .add 8<|qr 1 3<|qm 7<|qi 5<|qg 2<|qJ 3<|qc 544<|qq .add 16<|qv 3<|qe))) <| r1 105 (qm 7<|qk .add 1<|qv 7<|qe))
def l518_3 : C := .loop [] [] [] [] (lq 138 (qm 8<|qr 1 4<|qh false<|qQ .lss 0<|qe) 142 6 <| sq (bk 7 (r1 145 (qm 3<|qr 1 4<|qm 8<|qi 3<|qJ 3<|qc 544<|qq .add 0<|qv 3<|qe))) <| r1 143 (qm 8<|qk .add 1<|qv 8<|qe))
def l518_4 : C := .loop [] [] [] [] (lq 201 (qm 10<|qr 9 9<|qh false<|qQ .lss 0<|qe) 205 8 <| sq (bk 9 (r1 208 (qm 3<|qr 9 9<|qm 10<|qi 1<|qj<|qc 535<|qq .add 0<|qv 3<|qe))) <| r1 206 (qm 10<|qk .add 1<|qv 10<|qe))
def l518_5 : C := .loop [] [] [12] [] (lq 256 (qm 11<|qr 1 28<|qh false<|qQ .lss 0<|qe) 260 10 <| sq (bk 11 (rs 263 (qr 1 28<|qm 11<|qi 7<|qJ 7<|qG 12 z_12<|qs 12 7 5 4<|qe) <| r2 268 (qm 3<|qr 12 0<|qc 533<|qq .add 0<|qr 12 1<|qc 533<|qq .add 4<|qr 12 2<|qc 533<|qq .add 8<|qR 12 3 3<|qc 544<|qq .add 12<|qr 12 6<|qc 533<|qq .add 16<|qv 3<|qe))) <| r1 261 (qm 11<|qk .add 1<|qv 11<|qe))
def c518 : C := rs 0 (qB 1 0<|qE 2<|qe) <| rs 13 (qr 1 0<|qh false<|qc 533<|qv 3<|qe) <| sq (rs 0 (qz 4 0<|qe) <| bk 0 l518_0) <| rs 52 (qm 3<|qr 1 1<|qh false<|qc 533<|qq .add 0<|qv 3<|qe) <| sq (rs 0 (qz 6 0<|qe) <| bk 2 l518_1) <| rt 90 (qm 3<|qr 1 2<|qc 533<|qq .add 0<|qr 1 3<|qh false<|qc 533<|qq .add 4<|qv 3<|qe) <| sq (rs 0 (qz 7 0<|qe) <| bk 4 l518_2) <| rs 132 (qm 3<|qr 1 4<|qh false<|qc 533<|qq .add 0<|qv 3<|qe) <| sq (rs 0 (qz 8 0<|qe) <| bk 6 l518_3) <| rs 153 (qR 1 8 20<|qG 9 z_28<|qs 9 20 2 1<|qe) <| rt 155 (qm 3<|qR 1 5 3<|qc 544<|qq .add 0<|qr 9 0<|qc 533<|qq .add 4<|qr 9 1<|qc 533<|qq .add 8<|qr 9 2<|qc 533<|qq .add 12<|qr 9 3<|qc 533<|qq .add 16<|qr 9 4<|qc 533<|qq .add 20<|qr 9 5<|qc 533<|qq .add 24<|qr 9 6<|qc 533<|qq .add 28<|qr 9 7<|qc 533<|qq .add 32<|qr 9 8<|qc 535<|qq .add 36<|qr 9 9<|qh false<|qc 533<|qq .add 40<|qv 3<|qe) <| sq (rs 0 (qz 10 0<|qe) <| bk 8 l518_4) <| rt 216 (qm 3<|qr 9 10<|qc 533<|qq .add 0<|qr 9 11<|qc 533<|qq .add 4<|qr 9 12<|qc 533<|qq .add 8<|qf 9 13<|qg 0<|ql 9<|qc 535<|qq .add 12<|qf 9 13<|qg 1<|ql 9<|qc 535<|qq .add 17<|qr 9 15<|qc 534<|qq .add 22<|qR 9 16 3<|qc 544<|qq .add 26<|qr 9 19<|qc 534<|qq .add 30<|qr 1 28<|qh false<|qc 533<|qq .add 34<|qv 3<|qe) <| sq (rs 0 (qz 11 0<|qe) <| bk 10 l518_5) <| rs 289 (qm 3<|qv 2<|qe) .ret
def F518 : F := mF 1 [.t 2] none c518
attribute [go_sem] c518 F518
def c522 : C := rs 0 (qG 2 z_26<|qz 3 0<|qe) <| rs 7 (qm 0<|q1 (.build z_26 [(0,1,.l 0),(37,1,.c (.bool true))])<|qG 4 z_26<|qs 4 38 2 1<|qe) <| sq (rs 9 (qm 0<|qK .eql 0<|qe) <| cd 10 (r1 11 (q0 327<|qf 4 8<|qs 4 29 1 0<|qe)) <| rs 14 (qm 0<|qc 395<|q2 13 (.mov (.l 1))<|qx 0<|qy 1<|qG 5 z_17<|qs 5 2 5 3<|qV 6 4<|qe) <| i1 18 (qm 6<|qK .neq 0<|qe) 19 (rs 20 (q1 (.build z_26 [])<|qm 6<|qt 2 38 0<|qw 3<|qe) .ret) <| r1 22 (qb 5 2<|qf 4 6<|qs 4 2 1 0<|qe)) <| rt 25 (qR 4 1 5<|qb 4 38<|qc 552<|q1 (.inv [(226,553),(228,554)] (.l 3) [])<|qC 555 (ls [1,4])<|q2 24 (.mov (.l 5))<|qx 0<|qy 1<|qf 4 1<|qs 4 5 9 7<|qe) <| rs 34 (qb 4 38<|qt 2 38 0<|qz 3 0<|qe) .ret
def F522 : F := mF 1 [.cell 2 (some 38),.t 3] none c522
attribute [go_sem] c522 F522
def c523 : C := rs 0 (qB 2 0<|qG 4 z_26<|qe) <| i1 5 (qb 2 38<|q3 (.call (.k 556) .no none [.l 0])<|qe) 6 (r1 7 (qR 2 1 5<|qm 1<|qd 557<|qf 2 1<|qs 2 5 4 3<|qe)) <| rs 12 (qb 2 38<|qt 4 38 0<|qe) .ret
def F523 : F := mF 2 [.cell 4 (some 38)] none c523
attribute [go_sem] c523 F523
def c524 : C := rs 0 (qB 3 0<|qB 5 2<|qG 6 z_26<|qS 7 36<|qz 8 0<|qe) <| sq (rs 13 (qb 3 38<|qc 558<|qv 9<|qe) <| rs 15 (qm 9<|qK .neq 0<|qe) <| cd 16 (rs 17 (qb 3 38<|qm 9<|qt 6 38 0<|qS 7 36<|qV 8 1<|qe) .ret) .skip) <| rt 20 (qb 3 38<|qc 552<|qm 1<|qb 5 36<|q1 (.inv [(226,559),(228,560)] (.l 1) [.l 2,.l 3])<|q2 19 (.mov (.l 4))<|qx 0<|qy 1<|qw 10<|qw 11<|qe) <| rs 28 (qb 3 38<|qm 10<|qd 561<|q2 27 (.mov (.l 2))<|qx 0<|qy 1<|qt 3 38 4<|qw 12<|qe) <| rs 33 (qb 3 38<|qm 11<|qm 12<|qC 562 (ls [0,1,2])<|qx 0<|qy 1<|qY 3 2<|qt 6 38 4<|qV 7 5<|qV 8 6<|qe) .ret
def F524 : F := mF 3 [.cell 6 (some 38),.t 7,.t 8] none c524
attribute [go_sem] c524 F524
def c525 : C := rs 0 (qB 2 0<|qG 4 z_26<|qz 5 0<|qe) <| i1 14 (qb 2 38<|qc 556<|qN<|qe) 16 (rs 17 (qb 2 38<|qt 4 38 0<|qz 5 1<|qe) .ret) <| rs 18 (qf 2 37<|q5 (.store (.v 2) 1 (.l 0) (cb false))<|qe) <| rs 20 (qR 2 1 5<|qm 1<|qd 563<|qc 564<|q2 19 (.mov (.l 4))<|qx 0<|qy 1<|qY 5 2<|qG 6 z_29<|qs 6 5 9 6<|qV 7 7<|qV 8 8<|qe) <| rs 28 (qb 6 5<|qf 2 1<|qs 2 5 1 0<|qe) <| sq (bk 0 (rs 31 (qm 8<|qk .neq 0<|qv 30<|qe) <| cd 30 (rs 33 (qb 2 38<|qm 8<|qt 4 38 0<|qw 5<|qe) .ret) <| rs 36 (qm 7<|qh false<|qk .eql 0<|qv 35<|qe) <| cd 35 (rs 39 (qb 2 38<|qt 4 38 0<|qz 5 3<|qe) .ret) .skip)) <| rs 40 (qm 7<|qm 7<|qh false<|qk .sub 1<|q1 (.iad 1 (.l 0) (.l 3))<|qj<|qv 9<|qe) <| sq (rs 46 (qr 2 0<|qK .eql 0<|qe) <| cd 48 (rs 50 (qm 9<|qc 517<|q2 49 (.mov (.l 1))<|qx 0<|qy 1<|qG 10 z_13<|qs 10 29 5 3<|qV 11 4<|qe) <| i1 54 (qm 11<|qK .neq 0<|qe) 55 (rs 56 (qb 2 38<|qm 11<|qt 4 38 0<|qw 5<|qe) .ret) <| r1 58 (qb 10 29<|qf 2 8<|qs 2 29 1 0<|qe)) <| rs 61 (qm 9<|qc 512<|q2 60 (.mov (.l 1))<|qx 0<|qy 1<|qG 12 z_17<|qs 12 2 5 3<|qV 13 4<|qe) <| i1 65 (qm 13<|qk .neq 0<|yo<|qr 12 0<|qr 2 0<|qq .neq 4<|zO 2<|qe) 73 (rs 74 (qb 2 38<|qt 4 38 0<|qz 5 3<|qe) .ret) <| r1 75 (qb 12 2<|qf 2 6<|qs 2 2 1 0<|qe)) <| rs 77 (qf 2 37<|q5 (.store (.v 2) 1 (.l 0) (cb true))<|qe) <| rs 78 (qb 2 38<|qt 4 38 0<|qz 5 0<|qe) .ret
def F525 : F := mF 2 [.cell 4 (some 38),.t 5] none c525
attribute [go_sem] c525 F525
def l526_0 : C := .loop [] [0,0,9000] [] [] (rs 11 (q3 (.bin .lss (.g 10) (.g 9))<|qe) <| sq (cd 11 .skip <| .exit 0) <| sq (bk 1 (rs 12 (q1 (.iad 1 (.g 8) (.g 10))<|qj<|qv 5<|qe) <| rs 15 (qm 5<|qc 456<|q2 14 (.mov (.l 1))<|qx 0<|qy 1<|qw 6<|qD 7<|q1 (.mov (.l 4))<|qe) <| r1 19 (qm 0<|qm 0<|q1 (.nilc (.l 1))<|qg 0<|ql 0<|qm 6<|q1 (.appd 1 (.l 4) (.l 5))<|q1 (.nilc (.l 0))<|qg 0<|qs 0 1 8 6<|qe))) <| r1 28 (q1 (.bin .add (.g 10) (ci 1))<|qv 10<|qe))
def c526 : C := rs 8 (q3 (.mov (.g 1))<|qH false<|q3 (.mov (ci 0))<|qe) <| bk 0 l526_0
def F526 : F := mF 2 [] none c526
attribute [go_sem] c526 F526
def c527 : C := rs 4 (qm 0<|qm 1<|qh false<|q1 (.mks 1 1 [.int .i64 0] [(0,.l 2)])<|q1 (.rcall 526 [.l 0,.l 3] 0 0 20000)<|qe) <| r1 9 (qm 0<|qm 1<|q1 (.rcall 526 [.l 0,.l 1] 0 0 20100)<|qe)
def F527 : F := mF 2 [] none c527
attribute [go_sem] c527 F527
def l528_0 : C := .loop [] [0,0,9000] [] [] (rs 9 (q3 (.bin .lss (.g 8) (.g 7))<|qe) <| sq (cd 9 .skip <| .exit 0) <| sq (bk 1 (rs 10 (q1 (.iad 1 (.g 6) (.g 8))<|qj<|qv 5<|qe) <| r2 12 (qm 0<|qm 0<|q1 (.nilc (.l 1))<|qg 0<|ql 0<|qm 5<|qc 484<|q1 (.appd 1 (.l 4) (.l 6))<|q1 (.nilc (.l 0))<|qg 0<|qs 0 1 9 7<|qe))) <| r1 22 (q1 (.bin .add (.g 8) (ci 1))<|qv 8<|qe))
def c528 : C := rs 6 (q3 (.mov (.g 1))<|qH false<|q3 (.mov (ci 0))<|qe) <| bk 0 l528_0
def F528 : F := mF 2 [] none c528
attribute [go_sem] c528 F528
def l529_0 : C := .loop [] [4,0,10400] [8] [21400] (rs 101 (q3 (.bin .lss (.g 100) (.g 99))<|qe) <| sq (cd 101 .skip <| .exit 0) <| sq (bk 1 (rs 102 (q1 (.iad 2 (.g 98) (.g 100))<|qJ 2<|qG 8 z_1<|qs 8 2 2 1<|qe) <| r1 104 (qr 8 0<|qr 8 1<|q1 (.mks 1 2 [.str []] [(0,.l 1),(1,.l 3)])<|q1 (.rcall 457 [.g 4,.l 4] 0 4 21400)<|qe))) <| r1 110 (q1 (.bin .add (.g 100) (ci 1))<|qv 100<|qe))
def l529_1 : C := .loop [] [4,0,10400] [10] [21800,21900] (rs 127 (q3 (.bin .lss (.g 126) (.g 125))<|qe) <| sq (cd 127 .skip <| .exit 2) <| sq (bk 3 (rs 128 (q1 (.iad 5 (.g 124) (.g 126))<|qJ 5<|qG 10 z_0<|qs 10 5 2 1<|qe) <| rs 130 (qf 10 0<|qg 0<|ql 10<|qf 10 0<|qg 1<|ql 10<|q1 (.mks 1 2 [.str []] [(0,.l 2),(1,.l 5)])<|q1 (.rcall 457 [.g 4,.l 6] 0 4 21800)<|qe) <| r1 138 (qr 10 2<|qr 10 3<|qr 10 4<|q1 (.mks 1 3 [.int .i64 0] [(0,.l 1),(1,.l 3),(2,.l 5)])<|q1 (.rcall 422 [.g 4,.l 6] 0 4 21900)<|qe))) <| r1 146 (q1 (.bin .add (.g 126) (ci 1))<|qv 126<|qe))
def c529 : C := rs 0 (qB 1 0<|qE 2<|qz 3 0<|qe) <| i1 11 (qb 1 36<|qc 341<|qN<|qe) 13 (rs 0 (qE 2<|qz 3 1<|qe) .ret) <| rs 4 (q3 (.allo [.nslice 1] 10400)<|qe) <| rs 14 (qr 1 0<|qr 1 1<|qr 1 2<|qr 1 3<|qr 1 4<|qr 1 5<|qr 1 6<|qr 1 7<|qr 1 8<|q1 (.mks 1 9 [.int .i64 0] [(0,.l 1),(1,.l 3),(2,.l 5),(3,.l 7),(4,.l 9),(5,.l 11),(6,.l 13),(7,.l 15),(8,.l 17)])<|q1 (.rcall 422 [.g 4,.l 18] 0 4 20000)<|qe) <| rs 34 (qR 1 9 3<|q1 (.mks 3 1 z_19 [(0,.l 1)])<|q1 (.rcall 421 [.g 4,.l 2] 0 4 20100)<|qe) <| rs 38 (qr 1 12<|q1 (.mks 1 1 [.str []] [(0,.l 1)])<|q1 (.rcall 457 [.g 4,.l 2] 0 4 20200)<|qe) <| rt 42 (qR 1 13 12<|qR 1 25 9<|qG 5 z_23<|qG 6 z_8<|qs 5 12 4 1<|qs 6 9 5 3<|qe) <| rs 46 (qr 5 0<|qr 5 1<|qr 5 2<|q1 (.mks 1 3 [.int .i64 0] [(0,.l 1),(1,.l 3),(2,.l 5)])<|q1 (.rcall 422 [.g 4,.l 6] 0 4 20300)<|qe) <| rs 54 (qr 5 3<|qr 5 4<|q1 (.mks 1 2 [.str []] [(0,.l 1),(1,.l 3)])<|q1 (.rcall 457 [.g 4,.l 4] 0 4 20400)<|qe) <| rs 60 (qr 5 5<|q1 (.rcall 458 [.g 4,.l 1] 0 4 20500)<|qe) <| rs 63 (qr 5 6<|q1 (.mks 1 1 [.str []] [(0,.l 1)])<|q1 (.rcall 457 [.g 4,.l 2] 0 4 20600)<|qe) <| rs 67 (qR 5 7 3<|q1 (.mks 3 1 z_19 [(0,.l 1)])<|q1 (.rcall 421 [.g 4,.l 2] 0 4 20700)<|qe) <| rs 71 (qr 5 10<|q1 (.mks 1 1 [.str []] [(0,.l 1)])<|q1 (.rcall 457 [.g 4,.l 2] 0 4 20800)<|qe) <| rs 75 (qr 5 11<|qr 6 0<|q1 (.mks 1 2 [.int .i64 0] [(0,.l 1),(1,.l 3)])<|q1 (.rcall 422 [.g 4,.l 4] 0 4 20900)<|qe) <| rs 81 (qR 6 1 3<|q1 (.mks 3 1 z_19 [(0,.l 1)])<|q1 (.rcall 421 [.g 4,.l 2] 0 4 21000)<|qe) <| rs 85 (qr 6 4<|q1 (.rcall 458 [.g 4,.l 1] 0 4 21100)<|qe) <| rs 88 (qr 6 5<|q1 (.mks 1 1 [.str []] [(0,.l 1)])<|q1 (.rcall 457 [.g 4,.l 2] 0 4 21200)<|qe) <| rs 92 (qr 6 6<|qh false<|q1 (.mks 1 1 [.int .i64 0] [(0,.l 2)])<|q1 (.rcall 422 [.g 4,.l 3] 0 4 21300)<|qe) <| sq (rs 97 (qf 6 6<|q3 (.load (.v 6) none (.l 0))<|qH false<|q3 (.mov (ci 0))<|qe) <| bk 0 l529_0) <| rs 111 (qr 6 7<|q1 (.mks 1 1 [.str []] [(0,.l 1)])<|q1 (.rcall 457 [.g 4,.l 2] 0 4 21500)<|qe) <| rs 115 (qr 6 8<|q1 (.rcall 458 [.g 4,.l 1] 0 4 21600)<|qe) <| rs 118 (qr 1 34<|qh false<|q1 (.mks 1 1 [.int .i64 0] [(0,.l 2)])<|q1 (.rcall 422 [.g 4,.l 3] 0 4 21700)<|qe) <| sq (rs 123 (qf 1 34<|q3 (.load (.v 1) none (.l 0))<|qH false<|q3 (.mov (ci 0))<|qe) <| bk 2 l529_1) <| rs 147 (qr 1 35<|qh false<|q1 (.mks 1 1 [.int .i64 0] [(0,.l 2)])<|q1 (.rcall 422 [.g 4,.l 3] 0 4 22000)<|qe) <| rs 152 (qr 1 35<|q1 (.rcall 422 [.g 4,.l 1] 0 4 22100)<|qe) <| rs 155 (qr 4 0<|q1 (.b2s (.l 1))<|qv 2<|qz 3 0<|qe) .ret
def F529 : F := mF 1 [.t 2,.t 3] none c529
attribute [go_sem] c529 F529
def c530 : C := rs 0 (qz 2 0<|qe) <| rs 7 (qm 0<|q1 (.nilc (.l 0))<|qg 0<|ql 0<|qc 491<|q2 6 (.mov (.l 4))<|qx 0<|qy 1<|qY 5 2<|qV 3 6<|qV 4 7<|qV 5 8<|qe) <| rs 15 (qm 0<|qm 3<|qm 4<|qm 5<|q1 (.rcall 565 [.l 0,.l 1,.l 2,.l 3] 0 0 20000)<|qv 2<|qe) .ret
def F530 : F := mF 1 [.t 2] none c530
attribute [go_sem] c530 F530
def c531 : C := rs 0 (qz 2 0<|qe) <| rs 4 (qm 0<|q1 (.rcall 530 [.l 0] 0 0 20000)<|qv 3<|qe) <| i1 6 (qm 3<|qm 0<|q1 (.nilc (.l 1))<|qg 0<|ql 0<|qh true<|qQ .gtr 0<|qe) 12 (rs 13 (qm 0<|q1 (.nilc (.l 0))<|qg 1<|q5 (.store (.v 0) 1 (.l 2) (cb true))<|qe) <| rs 0 (qz 2 0<|qe) .ret) <| rs 16 (qm 3<|qv 2<|qe) .ret
def F531 : F := mF 1 [.t 2] none c531
attribute [go_sem] c531 F531
def l532_0 : C := .loop [] [] [6] [] (rs 29 (q3 (.bin .lss (.g 28) (.g 27))<|qe) <| sq (cd 29 .skip <| .exit 0) <| sq (bk 1 (rs 31 (qm 0<|q1 (.rcall 539 [.l 0] 0 0 20800)<|q1 (.call (.k 566) .freeze none [.l 1])<|q2 30 (.mov (.l 2))<|qx 0<|qy 1<|qG 6 z_20<|qs 6 36 6 4<|qV 7 5<|qe) <| rs 36 (qm 0<|qm 0<|q1 (.nilc (.l 1))<|qg 1<|ql 0<|yo<|qm 7<|qk .neq 0<|zo 5<|q1 (.nilc (.l 0))<|qg 1<|qs 0 1 10 8<|qe) <| r1 47 (qr 5 8<|qb 6 36<|q1 (.mks 36 1 z_20 [(0,.l 2)])<|q1 (.app 51 36 (.l 1) (.l 3))<|qf 5 8<|qs 5 1 5 4<|qe))) <| r1 53 (q1 (.bin .add (.g 28) (ci 1))<|qv 28<|qe))
def c532 : C := rs 0 (qG 4 z_16<|qe) <| rs 8 (qm 0<|q1 (.rcall 530 [.l 0] 0 0 20000)<|q1 (.build [.int .i64 0,.int .i64 0,.int .i64 0,.slice 1 [],.int .i64 0,.str [],.str [],.slice 1 [],.nslice 36] [(0,1,.l 1)])<|qG 5 z_30<|qs 5 9 3 2<|qe) <| rs 11 (qm 1<|qm 0<|q1 (.rcall 530 [.l 1] 0 0 20100)<|qm 0<|q1 (.rcall 540 [.l 3] 0 0 20200)<|qm 0<|q1 (.rcall 530 [.l 5] 0 0 20300)<|qm 0<|q1 (.rcall 539 [.l 7] 0 0 20400)<|qm 0<|q1 (.rcall 539 [.l 9] 0 0 20500)<|qm 0<|q1 (.rcall 540 [.l 11] 0 0 20600)<|q1 (.build z_4 [(0,1,.l 0),(1,1,.l 2),(2,1,.l 4),(3,1,.l 6),(4,1,.l 8),(5,1,.l 10),(6,1,.l 12)])<|qf 5 1<|qs 5 7 14 13<|qe) <| sq (rs 26 (qm 0<|q3 (.rcall 531 [.l 0] 0 0 20700)<|q3 (.mov (ci 0))<|qe) <| bk 0 l532_0) <| rs 54 (qb 5 9<|qt 4 9 0<|qe) .ret
def F532 : F := mF 2 [.cell 4 (some 9)] none c532
attribute [go_sem] c532 F532
def c533 : C := rs 0 (qE 2<|qe) <| rs 6 (qm 0<|qc 487<|q2 5 (.mov (.l 1))<|qx 0<|qy 1<|qw 3<|qD 4<|q1 (.mov (.l 4))<|qe) <| rs 10 (qm 3<|qv 2<|qe) .ret
def F533 : F := mF 1 [.t 2] none c533
attribute [go_sem] c533 F533
def l534_0 : C := .loop [] [] [] [] (lq 8 (qm 4<|qm 0<|qh false<|qQ .lss 0<|qe) 11 0 <| sq (bk 1 (r1 14 (qm 3<|qm 0<|qm 4<|qi 1<|qj<|qc 533<|qq .add 0<|qv 3<|qe))) <| r1 12 (qm 4<|qk .add 1<|qv 4<|qe))
def c534 : C := rs 0 (qE 2<|qe) <| rs 5 (qm 0<|qh false<|qc 533<|qv 3<|qe) <| sq (rs 0 (qz 4 0<|qe) <| bk 0 l534_0) <| rs 21 (qm 3<|qv 2<|qe) .ret
def F534 : F := mF 1 [.t 2] none c534
attribute [go_sem] c534 F534
def c535 : C := rs 0 (qE 2<|qe) <| rs 3 (qm 0<|qc 503<|qv 2<|qe) .ret
def F535 : F := mF 1 [.t 2] none c535
attribute [go_sem] c535 F535
def l537_0 : C := .loop [] [0,0,9000] [5] [] (rs 11 (q3 (.bin .lss (.g 10) (.g 9))<|qe) <| sq (cd 11 .skip <| .exit 0) <| sq (bk 1 (rs 12 (q1 (.iad 3 (.g 8) (.g 10))<|qJ 3<|qG 5 z_19<|qs 5 3 2 1<|qe) <| rs 15 (qb 5 3<|qc 455<|q2 14 (.mov (.l 1))<|qx 0<|qy 1<|qw 6<|qD 7<|q1 (.mov (.l 4))<|qe) <| r1 19 (qm 0<|qm 0<|q1 (.nilc (.l 1))<|qg 0<|ql 0<|qm 6<|q1 (.appd 1 (.l 4) (.l 5))<|q1 (.nilc (.l 0))<|qg 0<|qs 0 1 8 6<|qe))) <| r1 28 (q1 (.bin .add (.g 10) (ci 1))<|qv 10<|qe))
def c537 : C := rs 8 (q3 (.mov (.g 1))<|qH false<|q3 (.mov (ci 0))<|qe) <| bk 0 l537_0
def F537 : F := mF 2 [] none c537
attribute [go_sem] c537 F537
def c538 : C := rs 0 (qB 3 1<|qe) <| rs 4 (qm 0<|qr 3 0<|qr 3 1<|qr 3 2<|qr 3 3<|qr 3 4<|qr 3 5<|qr 3 6<|qr 3 7<|q1 (.mks 1 8 [.int .i64 0] [(0,.l 2),(1,.l 4),(2,.l 6),(3,.l 8),(4,.l 10),(5,.l 12),(6,.l 14),(7,.l 16)])<|q1 (.rcall 526 [.l 0,.l 17] 0 0 20000)<|qe) <| rs 23 (qm 0<|qr 3 8<|q1 (.mks 1 1 [.str []] [(0,.l 2)])<|q1 (.rcall 528 [.l 0,.l 3] 0 0 20100)<|qe) <| rs 28 (qm 0<|qr 3 9<|qh false<|q1 (.mks 1 1 [.int .i64 0] [(0,.l 3)])<|q1 (.rcall 526 [.l 0,.l 4] 0 0 20200)<|qe) <| rs 34 (qm 0<|qr 3 9<|q1 (.rcall 528 [.l 0,.l 2] 0 0 20300)<|qe) <| rs 38 (qm 0<|qr 3 10<|qr 3 11<|qr 3 12<|q1 (.mks 1 3 [.int .i64 0] [(0,.l 2),(1,.l 4),(2,.l 6)])<|q1 (.rcall 526 [.l 0,.l 7] 0 0 20400)<|qe) <| rs 47 (qm 0<|qf 3 13<|qg 0<|ql 3<|qf 3 13<|qg 1<|ql 3<|q1 (.mks 1 2 [.str []] [(0,.l 3),(1,.l 6)])<|q1 (.rcall 528 [.l 0,.l 7] 0 0 20500)<|qe) <| rs 56 (qm 0<|qr 3 15<|q1 (.rcall 527 [.l 0,.l 2] 0 0 20600)<|qe) <| rs 60 (qm 0<|qR 3 16 3<|q1 (.mks 3 1 z_19 [(0,.l 2)])<|q1 (.rcall 537 [.l 0,.l 3] 0 0 20700)<|qe) <| r1 65 (qm 0<|qr 3 19<|q1 (.rcall 527 [.l 0,.l 2] 0 0 20800)<|qe)
def F538 : F := mF 2 [] none c538
attribute [go_sem] c538 F538
def c539 : C := rs 0 (qE 2<|qe) <| rs 7 (qm 0<|q1 (.nilc (.l 0))<|qg 0<|ql 0<|qc 506<|q2 6 (.mov (.l 4))<|qx 0<|qy 1<|qY 5 2<|qV 3 6<|qV 4 7<|qV 5 8<|qe) <| rs 15 (qm 0<|qm 3<|qm 4<|qm 5<|q1 (.rcall 567 [.l 0,.l 1,.l 2,.l 3] 0 0 20000)<|qv 2<|qe) .ret
def F539 : F := mF 1 [.t 2] none c539
attribute [go_sem] c539 F539
def l540_0 : C := .loop [] [] [] [] (rs 7 (q3 (.bin .lss (.g 6) (.g 5))<|qe) <| sq (cd 7 .skip <| .exit 0) <| sq (bk 1 (r1 8 (qm 3<|qm 0<|q1 (.rcall 530 [.l 1] 0 0 20100)<|q1 (.mks 1 1 [.int .i64 0] [(0,.l 2)])<|q1 (.app 3 1 (.l 0) (.l 3))<|qv 3<|qe))) <| r1 13 (q1 (.bin .add (.g 6) (ci 1))<|qv 6<|qe))
def c540 : C := rs 0 (qS 2 1<|qe) <| rs 3 (q3 (.mko 1)<|qe) <| sq (rs 4 (qm 0<|q3 (.rcall 531 [.l 0] 0 0 20000)<|q3 (.mov (ci 0))<|qe) <| bk 0 l540_0) <| rs 14 (qm 3<|qv 2<|qe) .ret
def F540 : F := mF 1 [.t 2] none c540
attribute [go_sem] c540 F540
def c541 : C := rs 0 (qF 2<|qe) <| rs 7 (qm 0<|q1 (.nilc (.l 0))<|qg 0<|ql 0<|qc 507<|q2 6 (.mov (.l 4))<|qx 0<|qy 1<|qY 5 2<|qV 3 6<|qV 4 7<|qV 5 8<|qe) <| rs 15 (qm 0<|qm 3<|qm 4<|qm 5<|q1 (.rcall 568 [.l 0,.l 1,.l 2,.l 3] 0 0 20000)<|qv 2<|qe) .ret
def F541 : F := mF 1 [.t 2] none c541
attribute [go_sem] c541 F541
def c542 : C := rs 0 (qG 2 z_19<|qe) <| rs 7 (qm 0<|q1 (.nilc (.l 0))<|qg 0<|ql 0<|qc 490<|q2 6 (.mov (.l 4))<|qx 0<|qy 1<|qY 5 2<|qG 3 z_19<|qs 3 3 9 6<|qV 4 7<|qV 5 8<|qe) <| rs 15 (qm 0<|qb 3 3<|qm 4<|qm 5<|q1 (.rcall 569 [.l 0,.l 1,.l 2,.l 3] 0 0 20000)<|qt 2 3 4<|qe) .ret
def F542 : F := mF 1 [.cell 2 (some 3)] none c542
attribute [go_sem] c542 F542
def l543_0 : C := .loop [] [] [] [] (rs 34 (q3 (.bin .lss (.g 33) (.g 32))<|qe) <| sq (cd 34 .skip <| .exit 0) <| sq (bk 1 (r2 35 (qr 3 9<|qm 0<|q1 (.rcall 539 [.l 2] 0 0 21000)<|q1 (.mks 1 1 [.str []] [(0,.l 3)])<|q1 (.app 40 1 (.l 1) (.l 4))<|qf 3 9<|qs 3 1 6 5<|qe))) <| r1 42 (q1 (.bin .add (.g 33) (ci 1))<|qv 33<|qe))
def c543 : C := rs 0 (qG 2 z_28<|qe) <| rs 0 (qG 3 z_31<|qe) <| rs 4 (qm 0<|q1 (.rcall 530 [.l 0] 0 0 20000)<|qm 0<|q1 (.rcall 530 [.l 2] 0 0 20100)<|qm 0<|q1 (.rcall 530 [.l 4] 0 0 20200)<|qm 0<|q1 (.rcall 530 [.l 6] 0 0 20300)<|qf 3 0<|qs 3 1 8 1<|qf 3 1<|qs 3 1 10 3<|qf 3 2<|qs 3 1 12 5<|qf 3 3<|qs 3 1 14 7<|qe) <| rs 16 (qm 0<|q1 (.rcall 530 [.l 0] 0 0 20400)<|qm 0<|q1 (.rcall 530 [.l 2] 0 0 20500)<|qm 0<|q1 (.rcall 530 [.l 4] 0 0 20600)<|qm 0<|q1 (.rcall 530 [.l 6] 0 0 20700)<|qf 3 4<|qs 3 1 8 1<|qf 3 5<|qs 3 1 10 3<|qf 3 6<|qs 3 1 12 5<|qf 3 7<|qs 3 1 14 7<|qe) <| rs 28 (qm 0<|q1 (.rcall 539 [.l 0] 0 0 20800)<|qf 3 8<|qs 3 1 2 1<|qe) <| sq (rs 31 (qm 0<|q3 (.rcall 531 [.l 0] 0 0 20900)<|q3 (.mov (ci 0))<|qe) <| bk 0 l543_0) <| rs 43 (qm 0<|q1 (.rcall 530 [.l 0] 0 0 21100)<|qm 0<|q1 (.rcall 530 [.l 2] 0 0 21200)<|qm 0<|q1 (.rcall 530 [.l 4] 0 0 21300)<|qf 3 10<|qs 3 1 6 1<|qf 3 11<|qs 3 1 8 3<|qf 3 12<|qs 3 1 10 5<|qe) <| rs 52 (qm 0<|q1 (.rcall 539 [.l 0] 0 0 21400)<|qm 0<|q1 (.rcall 539 [.l 2] 0 0 21500)<|qf 3 13<|qg 0<|qs 3 1 5 1<|qf 3 13<|qg 1<|qs 3 1 8 3<|qe) <| rs 60 (qm 0<|q1 (.rcall 540 [.l 0] 0 0 21600)<|qm 0<|q1 (.rcall 542 [.l 2] 0 0 21700)<|qm 0<|q1 (.rcall 540 [.l 4] 0 0 21800)<|qf 3 15<|qs 3 1 6 1<|qf 3 16<|qs 3 3 8 3<|qf 3 19<|qs 3 1 10 5<|qe) <| rs 69 (qb 3 20<|qt 2 20 0<|qe) .ret
def F543 : F := mF 1 [.cell 2 (some 20)] none c543
attribute [go_sem] c543 F543
def c544 : C := rs 0 (qB 1 0<|qE 2<|qe) <| rs 3 (qb 1 3<|qc 486<|qv 2<|qe) .ret
def F544 : F := mF 1 [.t 2] none c544
attribute [go_sem] c544 F544
def c552 : C := rs 2 (qB 1 0<|q3 (.mov (.c (.niface)))<|qe) <| i1 3 (qr 1 0<|qK .eql 0<|qe) 5 (rs 6 (qR 1 8 29<|q1 (.build z_13 [(0,29,.l 1)])<|q1 (.mif 226 (.l 2))<|qv 2<|qe) .ret) <| rs 10 (qR 1 6 2<|q1 (.build z_17 [(0,2,.l 1)])<|q1 (.mif 228 (.l 2))<|qv 2<|qe) .ret
def F552 : F := mF 1 [.t 2] none c552
attribute [go_sem] c552 F552
def c554 : C := rs 0 (qB 1 0<|qE 2<|qe) <| rs 6 (qR 1 0 2<|qc 511<|q2 5 (.mov (.l 2))<|qx 0<|qy 1<|qw 3<|qD 4<|q1 (.mov (.l 5))<|qe) <| rs 11 (qm 3<|qv 2<|qe) .ret
def F554 : F := mF 1 [.t 2] none c554
attribute [go_sem] c554 F554
def c555 : C := rs 0 (qB 2 0<|qG 4 z_29<|qz 5 0<|qe) <| rs 9 (qm 1<|qc 570<|q2 8 (.mov (.l 1))<|qx 0<|qy 1<|qw 6<|qw 7<|qe) <| i1 13 (qm 7<|qK .neq 0<|qe) 14 (rs 15 (qb 2 5<|qm 7<|qt 4 5 0<|qw 5<|qe) .ret) <| sq (rs 18 (qb 2 5<|qm 6<|qd 571<|q2 17 (.mov (.l 2))<|qx 0<|qy 1<|qt 2 5 4<|qw 7<|qe) <| rs 23 (qm 7<|qK .neq 0<|qe) <| cd 24 (rs 25 (qb 2 5<|qm 7<|qt 4 5 0<|qw 5<|qe) .ret) .skip) <| rs 27 (qb 2 5<|qc 572<|qx 0<|qy 1<|qt 4 5 2<|qw 5<|qe) .ret
def F555 : F := mF 2 [.cell 4 (some 5),.t 5] none c555
attribute [go_sem] c555 F555
def c556 : C := rs 0 (qB 1 0<|qF 2<|qe) <| i1 3 (qr 1 0<|qk .lss 0<|yo<|qr 1 0<|qk .gtr 3<|zo 3<|yo<|qR 1 1 5<|qc 573<|qn<|zo 8<|yo<|qb 1 38<|qc 574<|qn<|zO 14<|qe) 21 (rs 0 (qF 2<|qe) .ret) <| i1 22 (qr 1 0<|qK .eql 0<|qe) 24 (rs 25 (qR 1 8 29<|qc 328<|qv 2<|qe) .ret) <| rs 28 (qf 1 6<|qg 0<|ql 1<|qr 1 0<|qq .eql 2<|ya<|qR 1 6 2<|qc 408<|za 6<|qv 2<|qe) .ret
def F556 : F := mF 1 [.t 2] none c556
attribute [go_sem] c556 F556
def c557 : C := rs 0 (qB 2 0<|qG 4 z_29<|qe) <| i1 5 (qb 2 5<|q3 (.call (.k 573) .no none [.l 0])<|qe) 6 (r1 7 (qm 1<|qk .geq 0<|qm 1<|q1 (.mm true (.l 2) (ci 0))<|q1 (.mm false (.l 3) (ci 1099511627776))<|qf 2 3<|qs 2 1 5 1<|qf 2 2<|qs 2 1 7 4<|qe)) <| rs 14 (qb 2 5<|qt 4 5 0<|qe) .ret
def F557 : F := mF 2 [.cell 4 (some 5)] none c557
attribute [go_sem] c557 F557
def c558 : C := rs 0 (qB 1 0<|qz 2 0<|qe) <| sq (bk 0 (rs 4 (qb 1 38<|qc 556<|qn<|qv 3<|qe) <| cd 3 (rs 0 (qz 2 1<|qe) .ret) <| rs 8 (qr 1 37<|qn<|qv 7<|qe) <| cd 7 (rs 0 (qz 2 16<|qe) .ret) .skip)) <| rs 0 (qz 2 0<|qe) .ret
def F558 : F := mF 1 [.t 2] none c558
attribute [go_sem] c558 F558
def c560 : C := rs 6 (qB 3 0<|qB 5 2<|q3 (.mov (.c (.niface)))<|q3 (.mov (.c (.slice 36 [])))<|qe) <| rs 11 (qR 3 0 2<|qm 1<|qb 5 36<|qC 413 (ls [1,2,3])<|q2 10 (.mov (.l 4))<|qx 0<|qy 1<|qG 8 z_17<|qs 8 2 8 6<|qV 9 7<|qe) <| rs 18 (qb 8 2<|q1 (.build z_17 [(0,2,.l 0)])<|q1 (.mif 228 (.l 1))<|qm 9<|qw 6<|qw 7<|qe) .ret
def F560 : F := mF 3 [.t 6,.t 7] none c560
attribute [go_sem] c560 F560
def c561 : C := rs 0 (qB 2 0<|qG 4 z_26<|qz 5 0<|qe) <| rs 8 (qm 1<|q1 (.inv [(226,553),(228,554)] (.l 0) [])<|qv 6<|qe) <| i1 10 (qm 6<|qb 2 38<|qc 552<|q1 (.inv [(226,553),(228,554)] (.l 2) [])<|qQ .eql 0<|qe) 14 (rs 15 (qb 2 38<|qt 4 38 0<|qz 5 0<|qe) .ret) <| rs 0 (qz 7 0<|qe) <| sq (rs 16 (qf 2 1<|qg 0<|ql 2<|qh true<|qf 2 1<|qg 1<|ql 2<|qh true<|qq .add 3<|qK .gtr 16384<|qe) <| cd 25 (r1 27 (qR 2 1 5<|qm 6<|qd 575<|q2 26 (.mov (.l 3))<|qx 0<|qy 1<|qf 2 1<|qs 2 5 7 5<|qV 7 6<|qe)) <| r1 35 (qR 2 1 5<|qm 6<|qd 555<|q2 34 (.mov (.l 3))<|qx 0<|qy 1<|qf 2 1<|qs 2 5 7 5<|qV 7 6<|qe)) <| i1 42 (qm 7<|qK .neq 0<|qe) 43 (rs 44 (qm 7<|qk .neq 16<|qf 2 37<|qs 2 1 2 1<|qe) <| rs 47 (qb 2 38<|qm 7<|qt 4 38 0<|qw 5<|qe) .ret) <| rs 49 (qb 2 38<|qm 1<|qd 576<|qt 4 38 2<|qz 5 0<|qe) .ret
def F561 : F := mF 2 [.cell 4 (some 38),.t 5] none c561
attribute [go_sem] c561 F561
def c562 : C := rs 0 (qB 3 0<|qG 6 z_26<|qS 7 36<|qz 8 0<|qe) <| i1 9 (qm 2<|qK .neq 0<|qe) 10 (rs 11 (qb 3 38<|qm 2<|qt 6 38 0<|qS 7 36<|qV 8 1<|qe) .ret) <| rs 13 (qb 3 38<|qm 1<|qt 6 38 0<|qw 7<|qz 8 0<|qe) .ret
def F562 : F := mF 3 [.cell 6 (some 38),.t 7,.t 8] none c562
attribute [go_sem] c562 F562
def c563 : C := rs 0 (qB 2 0<|qG 4 z_29<|qe) <| i1 5 (qb 2 5<|qc 573<|qN<|qe) 7 (rs 8 (qb 2 5<|qt 4 5 0<|qe) .ret) <| rt 9 (qr 2 0<|qr 2 1<|qm 1<|q1 (.mm true (.l 4) (ci 0))<|qr 2 1<|qh true<|q1 (.mm false (.l 5) (.l 8))<|q1 (.sl true 0 (.l 3) none (some (.l 9)))<|qq .add 1<|q1 (.build z_29 [(0,1,.l 11)])<|qt 4 5 12<|qe) .ret
def F563 : F := mF 2 [.cell 4 (some 5)] none c563
attribute [go_sem] c563 F563
def c564 : C := rs 0 (qB 1 0<|qG 2 z_29<|qS 3 1<|qz 4 0<|qe) <| rs 10 (qb 1 5<|qc 577<|q2 9 (.mov (.l 1))<|qx 0<|qy 1<|qw 5<|qw 6<|qe) <| i1 14 (qm 6<|qK .neq 0<|qe) 15 (rs 16 (qb 1 5<|qm 6<|qt 2 5 0<|qS 3 1<|qV 4 1<|qe) .ret) <| rs 19 (qm 5<|qc 578<|q2 18 (.mov (.l 1))<|qx 0<|qy 1<|qw 7<|qw 8<|qe) <| i1 23 (qm 8<|qm 5<|qh true<|qQ .lss 0<|qe) 26 (rs 28 (qb 1 5<|qm 8<|qd 579<|q2 27 (.mov (.l 2))<|qx 0<|qy 1<|qt 1 5 4<|qw 6<|qe) <| rs 33 (qm 6<|qK .neq 0<|qe) <| cd 34 (rs 35 (qb 1 5<|qm 6<|qt 2 5 0<|qS 3 1<|qV 4 1<|qe) .ret) .skip) <| rs 37 (qb 1 5<|qm 7<|qt 2 5 0<|qw 3<|qz 4 0<|qe) .ret
def F564 : F := mF 1 [.cell 2 (some 5),.t 3,.t 4] none c564
attribute [go_sem] c564 F564
def c565 : C := rs 0 (qz 8 0<|qe) <| rs 0 (qz 9 0<|qe) <| i1 10 (qm 0<|q1 (.nilc (.l 0))<|qg 1<|ql 0<|yo<|qm 3<|qk .neq 0<|zO 4<|qe) 17 (rs 18 (qm 0<|q1 (.nilc (.l 0))<|qg 1<|q5 (.store (.v 0) 1 (.l 2) (cb true))<|qe) <| rs 21 (qm 9<|qv 8<|qe) .ret) <| rs 22 (qm 0<|qm 2<|q1 (.nilc (.l 0))<|qg 0<|qs 0 1 3 1<|qe) <| rs 26 (qm 1<|qv 8<|qe) .ret
def F565 : F := mF 4 [.t 8] none c565
attribute [go_sem] c565 F565
def c567 : C := rs 0 (qE 8<|qe) <| rs 0 (qE 9<|qe) <| i1 10 (qm 0<|q1 (.nilc (.l 0))<|qg 1<|ql 0<|yo<|qm 3<|qk .neq 0<|zO 4<|qe) 17 (rs 18 (qm 0<|q1 (.nilc (.l 0))<|qg 1<|q5 (.store (.v 0) 1 (.l 2) (cb true))<|qe) <| rs 21 (qm 9<|qv 8<|qe) .ret) <| rs 22 (qm 0<|qm 2<|q1 (.nilc (.l 0))<|qg 0<|qs 0 1 3 1<|qe) <| rs 26 (qm 1<|qv 8<|qe) .ret
def F567 : F := mF 4 [.t 8] none c567
attribute [go_sem] c567 F567
def c568 : C := rs 0 (qF 8<|qe) <| rs 0 (qF 9<|qe) <| i1 10 (qm 0<|q1 (.nilc (.l 0))<|qg 1<|ql 0<|yo<|qm 3<|qk .neq 0<|zO 4<|qe) 17 (rs 18 (qm 0<|q1 (.nilc (.l 0))<|qg 1<|q5 (.store (.v 0) 1 (.l 2) (cb true))<|qe) <| rs 21 (qm 9<|qv 8<|qe) .ret) <| rs 22 (qm 0<|qm 2<|q1 (.nilc (.l 0))<|qg 0<|qs 0 1 3 1<|qe) <| rs 26 (qm 1<|qv 8<|qe) .ret
def F568 : F := mF 4 [.t 8] none c568
attribute [go_sem] c568 F568
def c569 : C := rs 0 (qB 5 1<|qG 8 z_19<|qe) <| rs 0 (qG 9 z_19<|qe) <| i1 10 (qm 0<|q1 (.nilc (.l 0))<|qg 1<|ql 0<|yo<|qm 3<|qk .neq 0<|zO 4<|qe) 17 (rs 18 (qm 0<|q1 (.nilc (.l 0))<|qg 1<|q5 (.store (.v 0) 1 (.l 2) (cb true))<|qe) <| rs 21 (qb 9 3<|qt 8 3 0<|qe) .ret) <| rs 22 (qm 0<|qm 2<|q1 (.nilc (.l 0))<|qg 0<|qs 0 1 3 1<|qe) <| rs 26 (qb 5 3<|qt 8 3 0<|qe) .ret
def F569 : F := mF 4 [.cell 8 (some 3)] none c569
attribute [go_sem] c569 F569
def c570 : C := rs 0 (qE 2<|qz 3 0<|qe) <| i1 4 (qm 0<|qh true<|qK .gtr 1048576<|qe) 6 (rs 0 (qE 2<|qz 3 5<|qe) .ret) <| rs 7 (qm 0<|qc 484<|qc 580<|qv 2<|qz 3 0<|qe) .ret
def F570 : F := mF 1 [.t 2,.t 3] none c570
attribute [go_sem] c570 F570
def c571 : C := rs 0 (qB 2 0<|qG 4 z_29<|qz 5 0<|qe) <| sq (rs 8 (qb 2 5<|qc 581<|qv 6<|qe) <| rs 10 (qm 6<|qK .neq 0<|qe) <| cd 11 (rs 12 (qb 2 5<|qm 6<|qt 4 5 0<|qw 5<|qe) .ret) .skip) <| i1 14 (qm 1<|qh true<|qr 2 0<|qh true<|q1 (.bin .sub (ci 1048576) (.l 4))<|qr 2 1<|qh true<|qq .sub 5<|qQ .gtr 1<|qe) 24 (rs 25 (qb 2 5<|qt 4 5 0<|qz 5 6<|qe) .ret) <| rs 27 (qb 2 5<|qc 582<|q2 26 (.mov (.l 1))<|qx 0<|qy 1<|qt 2 5 3<|qw 7<|qe) <| i1 31 (qm 7<|qN<|qe) 32 (rs 33 (qb 2 5<|qt 4 5 0<|qz 5 16<|qe) .ret) <| rs 34 (qr 2 1<|qm 1<|qq .add 1<|qf 2 1<|qs 2 1 4 3<|qe) <| rs 39 (qb 2 5<|qt 4 5 0<|qz 5 0<|qe) .ret
def F571 : F := mF 2 [.cell 4 (some 5),.t 5] none c571
attribute [go_sem] c571 F571
def c572 : C := rs 0 (qB 1 0<|qG 2 z_29<|qz 3 0<|qe) <| sq (rs 6 (qb 1 5<|qc 581<|qv 4<|qe) <| rs 8 (qm 4<|qK .neq 0<|qe) <| cd 9 (rs 10 (qb 1 5<|qm 4<|qt 2 5 0<|qw 3<|qe) .ret) .skip) <| rs 13 (qb 1 5<|qc 582<|q2 12 (.mov (.l 1))<|qx 0<|qy 1<|qt 1 5 3<|qw 5<|qe) <| i1 17 (qm 5<|qN<|qe) 18 (rs 19 (qb 1 5<|qt 2 5 0<|qz 3 16<|qe) .ret) <| rs 20 (qr 1 0<|qr 1 1<|qq .add 1<|qf 1 0<|qs 1 1 5 4<|qf 1 1<|q5 (.store (.v 1) 1 (.l 7) (.c (.str [])))<|qe) <| rs 27 (qb 1 5<|qt 2 5 0<|qz 3 0<|qe) .ret
def F572 : F := mF 1 [.cell 2 (some 5),.t 3] none c572
attribute [go_sem] c572 F572
def c573 : C := rs 0 (qB 1 0<|qF 2<|qe) <| rs 3 (qr 1 0<|qh true<|qr 1 1<|qh true<|qq .add 2<|qk .leq 1048576<|ya<|qr 1 2<|qk .geq 0<|za 8<|ya<|qr 1 2<|qk .leq 1099511627776<|za 13<|ya<|qr 1 3<|yo<|qr 1 2<|qk .eql 0<|y1 18<|qo 21<|za 18<|qv 2<|qe) .ret
def F573 : F := mF 1 [.t 2] none c573
attribute [go_sem] c573 F573
def c574 : C := rs 0 (qB 1 0<|qF 2<|qe) <| i1 5 (qr 1 0<|qK .eql 0<|qe) 7 (rs 8 (qf 1 6<|qg 0<|ql 1<|qk .eql 0<|ya<|qf 1 6<|qg 1<|ql 1<|qh false<|qk .eql 0<|za 4<|qv 2<|qe) .ret) <| rs 19 (q1 (.build z_13 [])<|qG 3 z_13<|qs 3 29 1 0<|qe) <| rs 20 (qR 1 8 29<|qG 4 z_13<|qs 4 29 2 1<|qe) <| rs 22 (qr 4 0<|qh false<|qr 4 1<|qh false<|qq .add 2<|qr 4 3<|qh false<|qq .add 6<|qr 4 4<|qh false<|qq .add 10<|qr 4 28<|qh false<|qq .add 14<|qk .eql 0<|ya<|qr 4 2<|qk .eql 0<|za 20<|ya<|qR 4 5 3<|qR 3 5 3<|q1 (.eqa false [.i,.i,.i] (.l 27) (.l 29))<|za 25<|ya<|qR 4 8 20<|qc 583<|za 32<|qv 2<|qe) .ret
def F574 : F := mF 1 [.t 2] none c574
attribute [go_sem] c574 F574
def c577 : C := rs 0 (qB 1 0<|qE 2<|qz 3 0<|qe) <| sq (rs 5 (qb 1 5<|qc 581<|qv 4<|qe) <| rs 7 (qm 4<|qK .neq 0<|qe) <| cd 8 (rs 9 (qm 4<|qE 2<|qw 3<|qe) .ret) .skip) <| rs 10 (qr 1 0<|qr 1 1<|qq .add 1<|qv 2<|qz 3 0<|qe) .ret
def F577 : F := mF 1 [.t 2,.t 3] none c577
attribute [go_sem] c577 F577
def l578_0 : C := .loop [] [] [] [] (bk 1 (rs 11 (qm 5<|qc 585<|q2 10 (.mov (.l 1))<|qx 0<|qy 1<|qY 2 2<|qV 6 3<|qV 7 4<|qV 8 5<|qe) <| i1 16 (qm 8<|qK .neq 0<|qe) 17 (rs 18 (qm 4<|qm 0<|qh true<|qm 5<|qh true<|qq .sub 2<|qV 2 0<|qw 3<|qe) .ret) <| r1 24 (qm 4<|qm 6<|q1 (.mks 1 1 [.str []] [(0,.l 1)])<|q1 (.app 4 1 (.l 0) (.l 2))<|qm 7<|qw 4<|qw 5<|qe)))
def c578 : C := rs 0 (qS 2 1<|qz 3 0<|qe) <| rs 4 (q3 (.mko 1)<|qe) <| rs 9 (qm 0<|qv 5<|qe) <| bk 0 l578_0
def F578 : F := mF 1 [.t 2,.t 3] none c578
attribute [go_sem] c578 F578
def c580 : C := rs 0 (qE 2<|qe) <| rs 4 (qm 0<|qc 586<|qv 3<|qe) <| rs 6 (qm 0<|qm 3<|q1 (.conv (.int .u8) (.l 1))<|qm 3<|q1 (.sh .shr (.l 3) (.c (.int .u64 8)))<|q1 (.conv (.int .u8) (.l 4))<|qm 3<|q1 (.sh .shr (.l 6) (.c (.int .u64 16)))<|q1 (.conv (.int .u8) (.l 7))<|qm 3<|q1 (.sh .shr (.l 9) (.c (.int .u64 24)))<|q1 (.conv (.int .u8) (.l 10))<|q1 (.mks 1 4 [.int .u8 0] [(0,.l 2),(1,.l 5),(2,.l 8),(3,.l 11)])<|q1 (.b2s (.l 12))<|qq .add 0<|qv 2<|qe) .ret
def F580 : F := mF 1 [.t 2] none c580
attribute [go_sem] c580 F580
def c581 : C := rs 0 (qB 1 0<|qz 2 0<|qe) <| sq (bk 0 (rs 4 (qb 1 5<|qc 573<|qn<|qv 3<|qe) <| cd 3 (rs 0 (qz 2 1<|qe) .ret) <| rs 8 (qr 1 4<|qv 7<|qe) <| cd 7 (rs 0 (qz 2 16<|qe) .ret) .skip)) <| rs 0 (qz 2 0<|qe) .ret
def F581 : F := mF 1 [.t 2] none c581
attribute [go_sem] c581 F581
def c582 : C := rs 0 (qB 1 0<|qG 2 z_29<|qF 3<|qe) <| sq (bk 0 (rs 5 (qr 1 3<|ya<|qr 1 2<|qk .eql 0<|za 2<|qv 4<|qe) <| cd 4 (rs 12 (qf 1 4<|q5 (.store (.v 1) 1 (.l 0) (cb true))<|qe) <| rs 13 (qb 1 5<|qt 2 5 0<|qF 3<|qe) .ret) <| rs 15 (qr 1 3<|qv 14<|qe) <| cd 14 (r1 17 (qr 1 2<|qk .sub 1<|qf 1 2<|qs 1 1 3 2<|qe)) .skip)) <| rs 21 (qb 1 5<|qt 2 5 0<|qT 3<|qe) .ret
def F582 : F := mF 1 [.cell 2 (some 5),.t 3] none c582
attribute [go_sem] c582 F582
def c583 : C := rs 0 (qB 1 0<|qF 2<|qe) <| rs 3 (qr 1 0<|qk .eql 0<|ya<|qr 1 1<|qk .eql 0<|za 3<|ya<|qr 1 2<|qk .eql 0<|za 8<|ya<|qr 1 3<|qk .eql 0<|za 13<|ya<|qr 1 4<|qk .eql 0<|za 18<|ya<|qr 1 5<|qk .eql 0<|za 23<|ya<|qr 1 6<|qk .eql 0<|za 28<|ya<|qr 1 7<|qk .eql 0<|za 33<|ya<|qr 1 8<|q1 (.bin .eql (.l 40) (.c (.str [])))<|za 38<|ya<|qr 1 9<|qh false<|qr 1 15<|qh false<|qq .add 46<|qr 1 19<|qh false<|qq .add 50<|qk .eql 0<|za 43<|ya<|qr 1 10<|qk .eql 0<|za 57<|ya<|qr 1 11<|qk .eql 0<|za 62<|ya<|qr 1 12<|qk .eql 0<|za 67<|ya<|qR 1 13 2<|q1 (.build z_1 [])<|q1 (.eqa false [.s,.s] (.l 74) (.l 75))<|za 72<|ya<|qR 1 16 3<|q1 (.build z_19 [])<|q1 (.eqa false [.i,.i,.i] (.l 80) (.l 81))<|za 78<|qv 2<|qe) .ret
def F583 : F := mF 1 [.t 2] none c583
attribute [go_sem] c583 F583
def c585 : C := rs 0 (qE 2<|qE 3<|qz 4 0<|qe) <| rs 12 (qm 0<|qc 491<|q2 11 (.mov (.l 1))<|qx 0<|qy 1<|qY 2 2<|qV 5 3<|qV 6 4<|qV 7 5<|qe) <| sq (bk 0 (rs 18 (qm 7<|qk .neq 0<|qv 17<|qe) <| cd 17 (rs 20 (qm 7<|qE 2<|qE 3<|qV 4 0<|qe) .ret) <| rs 22 (qm 5<|qk .gtr 1048576<|qv 21<|qe) <| cd 21 (rs 0 (qE 2<|qE 3<|qz 4 3<|qe) .ret) <| rs 25 (qm 6<|qh true<|qm 5<|qk .add 4<|qq .lss 1<|qv 24<|qe) <| cd 24 (rs 0 (qE 2<|qE 3<|qz 4 2<|qe) .ret) .skip)) <| rs 30 (qm 0<|qh true<|qm 6<|qh true<|qq .sub 1<|qm 5<|qq .add 4<|qk .add 4<|qv 8<|qe) <| sq (rs 39 (qm 0<|qm 8<|q1 (.sl true 0 (.l 0) none (some (.l 1)))<|qc 587<|q2 38 (.mov (.l 3))<|qx 0<|qy 1<|qD 9<|q1 (.mov (.l 5))<|q3 (.mov (.l 6))<|qe) <| rs 45 (qm 10<|qK .neq 0<|qe) <| cd 46 (rs 47 (qm 10<|qE 2<|qE 3<|qV 4 0<|qe) .ret) .skip) <| rt 48 (qm 6<|qm 5<|q1 (.sl true 0 (.l 0) none (some (.l 1)))<|qm 0<|qm 8<|q1 (.sl true 0 (.l 3) (some (.l 4)) none)<|qV 2 2<|qw 3<|qz 4 0<|qe) .ret
def F585 : F := mF 1 [.t 2,.t 3,.t 4] none c585
attribute [go_sem] c585 F585
def l586_1 : C := .loop [] [] [] [] (rs 17 (q3 (.bin .lss (.g 16) (ci 8))<|qe) <| sq (cd 17 .skip <| .exit 2) <| sq (bk 3 (r1 18 (qm 3<|q1 (.sh .shr (.l 0) (.c (.int .u64 1)))<|qm 3<|q1 (.bin .and (.l 2) (.c (.int .u32 1)))<|q1 (.un .neg (.l 3))<|q1 (.bin .and (.c (.int .u32 2197175160)) (.l 4))<|qq .xor 1<|qv 3<|qe))) <| r1 25 (q1 (.bin .add (.g 16) (ci 1))<|qv 16<|qe))
def l586_0 : C := .loop [] [] [] [] (rs 8 (q3 (.bin .lss (.g 7) (.g 6))<|qe) <| sq (cd 8 .skip <| .exit 0) <| sq (bk 1 (rs 9 (qm 7<|qv 4<|qe) <| rs 10 (qm 3<|qm 0<|qm 4<|q1 (.idx (.l 1) (.l 2))<|q1 (.conv (.int .u32) (.l 3))<|qq .xor 0<|qv 3<|qe) <| rs 0 (qz 16 0<|qe) <| bk 2 l586_1)) <| r1 26 (q1 (.bin .add (.g 7) (ci 1))<|qv 7<|qe))
def c586 : C := rs 2 (q3 (.mov (.c (.int .u32 0)))<|qe) <| rs 3 (q3 (.mov (.c (.int .u32 4294967295)))<|qe) <| sq (rs 5 (qm 0<|qH true<|q3 (.mov (ci 0))<|qe) <| bk 0 l586_0) <| rs 27 (qm 3<|q1 (.un .xor (.l 0))<|qv 2<|qe) .ret
def F586 : F := mF 1 [.t 2] none c586
attribute [go_sem] c586 F586
def c587 : C := rs 0 (qE 2<|qz 3 0<|qe) <| rs 5 (qm 0<|qh true<|qk .sub 4<|qv 4<|qe) <| sq (bk 0 (rs 9 (qm 4<|qk .lss 0<|qv 8<|qe) <| cd 8 (rs 0 (qE 2<|qz 3 2<|qe) .ret) <| rs 12 (qm 0<|qm 4<|q1 (.sl true 0 (.l 0) none (some (.l 1)))<|qc 580<|qm 0<|qq .neq 3<|qv 11<|qe) <| cd 11 (rs 0 (qE 2<|qz 3 4<|qe) .ret) .skip)) <| rs 18 (qm 0<|qm 4<|q1 (.sl true 0 (.l 0) none (some (.l 1)))<|qv 2<|qz 3 0<|qe) .ret
def F587 : F := mF 1 [.t 2,.t 3] none c587
attribute [go_sem] c587 F587
end Sg
namespace Sg
open _root_.Go _root_.Go.RowKit _root_.Go.Proofs _root_.Go.Shelf
def renU:Shelf.Ren:=⟨fun|197=>235|260=>244|n=>n,fun|0=>0|3=>3|4=>4|5=>5|9=>9|21=>21|46=>241|105=>297|119=>304|138=>306|139=>307|n=>n,fun|3=>0|4=>1|n=>n⟩
set_option maxRecDepth 1000000 in
theorem lays197:Lays.n197 Tryz.prog renU where
 mixed:=by kernel_rfl
 f197:=Tryz.func235.trans (congrArg some (by kernel_rfl))
 f260:=Tryz.func244.trans (congrArg some (by kernel_rfl))
 t0:=Tryz.underlying0
 a0:=Tryz.isAgg0
 z0:=Tryz.sizeOf0
 v0:=Tryz.zeroValue0
 t3:=Tryz.underlying3
 a3:=Tryz.isAgg3
 z3:=Tryz.sizeOf3
 v3:=Tryz.zeroValue3
 t4:=Tryz.underlying4
 a4:=Tryz.isAgg4
 z4:=Tryz.sizeOf4
 v4:=Tryz.zeroValue4
 t5:=Tryz.underlying5
 a5:=Tryz.isAgg5
 z5:=Tryz.sizeOf5
 v5:=Tryz.zeroValue5
 t9:=Tryz.underlying9
 a9:=Tryz.isAgg9
 z9:=Tryz.sizeOf9
 v9:=Tryz.zeroValue9
 t21:=Tryz.underlying21
 a21:=Tryz.isAgg21
 z21:=Tryz.sizeOf21
 v21:=Tryz.zeroValue21
 t46:=Tryz.underlying241
 a46:=Tryz.isAgg241
 z46:=Tryz.sizeOf241
 v46:=Tryz.zeroValue241
 t105:=Tryz.underlying297
 a105:=Tryz.isAgg297
 z105:=Tryz.sizeOf297
 v105:=Tryz.zeroValue297
 t119:=Tryz.underlying304
 a119:=Tryz.isAgg304
 z119:=Tryz.sizeOf304
 t138:=Tryz.underlying306
 a138:=Tryz.isAgg306
 z138:=Tryz.sizeOf306
 v138:=Tryz.zeroValue306
 t139:=Tryz.underlying307
 a139:=Tryz.isAgg307
 z139:=Tryz.sizeOf307
 v139:=Tryz.zeroValue307
 g3:=by kernel_rfl
 g4:=by kernel_rfl
theorem dec_walk (s:ByteArray) (w:World) (hT:Lib.Utf8Tabs 0 1 w) :
  Calls Tryz.prog 235 #[.string s] w fun e w'=>e=.returned (.tuple #[.int .i32 (Lib.decodeGo s).1,.int .i64 (Lib.decodeGo s).2])∧Below w.heap.size w w':=
 Any.utf8_DecodeRuneInString lays197 s w hT
theorem tabs_st (w w':World) (h:Lib.Utf8Tabs 0 1 w) (hb:∀b,b<2→w'.heap[b]?=w.heap[b]?):Lib.Utf8Tabs 0 1 w':=by
 have e:∀b o,b<2→w'.cell? ⟨b,o,none⟩=w.cell? ⟨b,o,none⟩:=fun b o hlt=>by
  simp only[World.cell?,hb b hlt]
 exact⟨fun c hc=>by rw[e _ _ (by decide)];exact h.1 c hc,fun i hi=>by rw[e _ _ (by decide),e _ _ (by decide)];exact h.2 i hi⟩
def cxU (l:List (Nat×Nat)):Cx where
 fm:=fun n=>(look l n).getD 0
 tm:=fun n=>n
 gn:=2
 G:=Lib.Utf8Tabs 0 1
 Gst:=tabs_st
set_option maxRecDepth 1000000 in
theorem key_walk (s:ByteArray) (w:World) (hgn:2≤w.heap.size) (hT:Lib.Utf8Tabs 0 1 w)
  (hplain:∀(r n:Int) (w:World),2≤w.heap.size→Lib.Utf8Tabs 0 1 w→Calls Tryz.prog 236 #[.int .i32 r,.int .i64 n] w fun e w'=>e=.returned (.bool (plainR r n))∧Below w.heap.size w w') :
  Calls Tryz.prog 218 #[.string s] w fun e w'=>e=.returned (.bool (keyR s.data.toList))∧Below w.heap.size w w':=by
 have t0:=Tryz.underlying0;have t3:=Tryz.underlying3;have t4:=Tryz.underlying4;have t9:=Tryz.underlying9;have t21:=Tryz.underlying21
 have hu0:=run_underlying t0;have hu3:=run_underlying t3;have hu4:=run_underlying t4;have hu9:=run_underlying t9;have hu21:=run_underlying t21
 have mixed:Tryz.prog.follows .mixedOrders=true:=by kernel_rfl
 have a0:=Tryz.isAgg0;have z0:=Tryz.sizeOf0;have v0:=Tryz.zeroValue0
 have a3:=Tryz.isAgg3;have z3:=Tryz.sizeOf3;have v3:=Tryz.zeroValue3
 have a4:=Tryz.isAgg4;have z4:=Tryz.sizeOf4;have v4:=Tryz.zeroValue4
 have a9:=Tryz.isAgg9;have z9:=Tryz.sizeOf9;have v9:=Tryz.zeroValue9
 have a21:=Tryz.isAgg21;have z21:=Tryz.sizeOf21;have v21:=Tryz.zeroValue21
 go_enter Tryz.func218,Tryz.ntmps218
 go_wp2
 go_loopw [3] (fun _ wr=>∃(pos fuel:Nat),wr.heap[w.heap.size]?=some (.stringIter s pos)∧Below w.heap.size w wr∧keyAll fuel (s.data.toList.drop pos)=keyAll s.size s.data.toList∧s.size≤pos+fuel) (fun _ wr=>s.size-wr.iterPos w.heap.size)
 case atStart=>
  refine⟨0,s.size,?_,(Below.refl _ w).alloc (Nat.le_refl _) _,by simp,by omega⟩
  have:=World.iter_heap w s 0
  simpa using this
 case round=>
  obtain⟨pos,fuel,hit,hbw,hacc,hfu⟩:=hrel
  have hsz:w.heap.size<wr.heap.size:=(Array.getElem?_eq_some_iff.1 hit).1
  have hbT:∀W:World,Below w.heap.size w W→Lib.Utf8Tabs 0 1 W:=fun W h=>tabs_st w W hT fun b hb=>h.block b (by omega)
  by_cases hp:pos<s.size
  ·have hnx:∀ty,(Instr.next (.pointer (some ⟨w.heap.size,0,none⟩)) true ty).run Tryz.prog wr=_:=fun ty=>Lib.run_next_any_at wr w.heap.size s pos ty hit hp
   have hbw2:=Lib.below_iterAt hbw (k:=w.heap.size) (by omega) s (pos+(Utf8.decode s pos).2)
   have hit2:=Lib.iterAt_heap wr w.heap.size s pos (pos+(Utf8.decode s pos).2) hit
   have hsz2:w.heap.size+1≤(wr.iterAt w.heap.size s (pos+(Utf8.decode s pos).2)).heap.size:=by rw[Lib.iterAt_size];omega
   have hde:∀n,n=s.size→Lib.decodeGo (s.extract pos n)=Utf8.decode s pos:=fun n hn=>decode_extract s pos n hn hp
   have hw1:=width_pos s pos
   obtain⟨f,rfl⟩:∃f,fuel=f+1:=⟨fuel-1,by omega⟩
   have hnil:s.data.toList.drop pos≠[]:=fun e=>by
    exact drop_ne s pos hp e
   have hdN:=decode_drop s pos
   simp only[keyAll,hnil,if_false,←hdN] at hacc
   generalize Utf8.decode s pos=D at *
   clear hdN hnil
   obtain⟨D1,D2⟩:=D
   simp only at hw1 hacc hbw2 hit2 hsz2 hde hnx
   have hsl:=size_list s
   have hfin:∀W:World,plainR D1 D2=false→keyR s.data.toList=false:=fun W hpl=>by
    rw[hpl,Bool.false_and] at hacc;rw[keyR,hsl,←hacc,Bool.false_and]
   clear hsl
   go_wp2_with (go_at_call 235;refine (dec_walk _ _ (hbT _ hbw2)).mono ?_;rintro e W1 ⟨rfl,b1⟩)
   have hb3:=hbw2.trans (b1.mono (by omega))
   have hs3:W1.heap.size≥w.heap.size+1:=Nat.le_trans hsz2 b1.size
   have hit3:W1.heap[w.heap.size]?=some (.stringIter s (pos+D2)):=(b1.block _ (by omega)).trans hit2
   have hpl:=hplain D1 D2 W1 (by omega) (hbT _ hb3)
   cases hP:plainR D1 D2 with
   |false=>
    rw[hP] at hpl
    have hke:=hfin w hP
    clear hacc hfin
    go_wp2_with (go_at_call 236;refine hpl.mono ?_;rintro e W2 ⟨rfl,b2⟩)
    have hb4:=hb3.trans (b2.mono (by omega))
    go_wp2
    go_ret
    rw[hke]
    exact⟨rfl,hb4⟩
   |true=>
    rw[hP,Bool.true_and,List.drop_drop] at hacc
    rw[hP] at hpl
    clear hfin
    obtain⟨kk,hkk⟩:∃kk,kk=keyAll s.size s.data.toList:=⟨_,rfl⟩
    go_wp2_with (go_at_call 236;refine hpl.mono ?_;rintro e W2 ⟨rfl,b2⟩)
    have hb4:=hb3.trans (b2.mono (by omega))
    have hit4:W2.heap[w.heap.size]?=some (.stringIter s (pos+D2)):=(b2.block _ (by omega)).trans hit3
    go_wp2
    go_roundw
    case rel=>exact⟨pos+D2,f,hit4,hb4,hacc,by omega⟩
    case measure=>
     simp only[World.iterPos,hit4,hit]
     omega
  ·have hnx:∀ty,(Instr.next (.pointer (some ⟨w.heap.size,0,none⟩)) true ty).run Tryz.prog wr=_:=fun ty=>Lib.run_next_end_at wr w.heap.size s pos ty hit hp
   have hall:keyAll s.size s.data.toList=true:=by
    rw[←hacc,List.drop_eq_nil_of_le (by rw[size_list];omega)];cases fuel<;>simp[keyAll]
   have hkey:keyR s.data.toList=(decide ((1:Int)≤s.size)&&decide ((s.size:Int)≤16)):=by
    rw[keyR,size_list,hall,Bool.true_and]
    congr 1<;>exact decide_eq_decide.2 (by omega)
   clear hacc hall
   by_cases h1:(1:Int)≤s.size
   ·rw[decide_eq_true h1,Bool.true_and] at hkey
    go_wp2
    go_ret
    exact⟨by first|rfl|(rw[hkey];rfl),hbw⟩
   ·rw[decide_eq_false h1,Bool.false_and] at hkey
    go_wp2
    go_ret
    exact⟨by first|rfl|(rw[hkey];rfl),hbw⟩
end Sg
namespace Sg
open Go.Proofs
open _root_.Go
def noQ:List V→Option V:=fun _=>none
def nodeFm:List (Nat×Nat):=[(514,4),(515,14),(325,15),(510,8),(516,16),(329,17),(517,18),(518,19),(332,20),(344,46),(522,24),(523,26),(524,25),(525,27),(328,47),(526,29),(528,31),(527,30),(485,48),(537,49),(538,50),(147,51),(114,52),(349,53),(24,54),(350,55),(351,56),(531,38),(539,57),(530,37),(540,58),(541,59),(542,60),(543,61),(533,40),(535,42),(534,41),(504,62),(544,63),(353,64),(153,65),(116,66),(354,67),(327,75),(395,76),(552,78),(553,262),(554,338),(555,77),(556,82),(557,83),(558,79),(559,263),(560,339),(561,80),(562,81),(563,85),(564,84),(512,11),(141,117),(126,118),(28,119),(346,120),(347,121),(348,122),(456,93),(484,94),(455,123),(173,124),(174,125),(506,126),(567,127),(491,106),(565,107),(507,128),(568,129),(490,130),(569,131),(487,109),(503,110),(486,132),(154,141),(345,142),(397,144),(401,143),(43,145),(511,9),(570,146),(571,147),(572,148),(573,151),(574,152),(408,28),(340,265),(413,341),(575,149),(576,150),(577,153),(578,154),(579,155),(532,39),(162,178),(163,179),(164,181),(165,180),(166,182),(32,183),(369,184),(67,159),(65,158),(483,185),(167,186),(184,187),(505,170),(502,176),(368,86),(249,188),(421,96),(422,95),(423,189),(68,161),(39,87),(529,32),(580,191),(581,192),(582,193),(583,195),(430,88),(41,89),(431,91),(432,90),(341,92),(357,267),(121,268),(361,269),(362,270),(363,271),(364,272),(365,273),(355,274),(437,342),(438,343),(427,344),(40,163),(439,345),(428,162),(440,346),(441,347),(15,229),(261,349),(442,348),(443,350),(444,351),(584,194),(585,196),(566,108),(185,204),(186,205),(76,198),(75,197),(168,206),(187,207),(244,208),(301,209),(284,210),(457,97),(458,98),(63,156),(64,157),(66,160),(586,211),(468,164),(366,165),(367,166),(133,275),(21,279),(109,280),(375,282),(376,283),(377,284),(379,286),(159,288),(381,289),(370,290),(371,291),(57,352),(429,353),(473,354),(54,355),(462,357),(463,356),(464,172),(465,171),(466,175),(467,199),(474,358),(240,359),(247,360),(475,361),(26,242),(27,241),(47,362),(476,363),(477,364),(262,365),(256,366),(258,367),(265,368),(478,369),(253,370),(266,371),(267,372),(270,373),(271,374),(273,375),(275,376),(587,212),(492,173),(493,174),(192,219),(188,220),(189,221),(195,222),(203,223),(81,224),(298,226),(299,225),(316,228),(313,230),(138,293),(139,292),(128,294),(129,295),(130,296),(113,297),(131,298),(383,300),(384,299),(145,303),(120,304),(177,305),(156,306),(157,307),(148,308),(74,377),(71,378),(496,379),(73,382),(72,383),(499,384),(285,385),(286,386),(287,387),(171,227),(288,388),(289,389),(290,390),(291,391),(500,392),(31,246),(501,393),(217,395),(304,396),(303,397),(302,398),(308,399),(178,316),(309,400),(211,401),(311,402),(213,403),(91,404),(191,236),(7,237),(97,238),(98,239),(315,240),(137,310),(172,313),(175,315),(314,407),(82,408),(84,409),(200,410),(88,411),(312,412),(206,413),(17,414),(220,417),(221,418),(22,245),(193,323),(194,326),(319,420),(320,421),(100,422),(3,423),(10,427),(12,428),(25,429),(225,433),(226,434),(105,438),(106,437),(29,443),(30,444),(69,190),(179,266),(134,277),(136,276),(373,278),(374,281),(378,285),(380,287),(170,218),(385,301),(386,302),(382,309),(497,380),(498,381),(307,394),(190,235),(135,314),(180,317),(181,318),(317,415),(318,416),(222,424),(102,425),(103,426),(23,430),(227,435)]
def nodeTab:List (Nat×Fn):=[(514,.code F514),(515,.code F324),(325,.code F325),(510,.code F510),(516,.code F516),(329,.code F329),(517,.code F517),(518,.code F518),(332,.code F332),(344,.code F344),(522,.code F522),(523,.code F523),(524,.code F524),(525,.code F525),(328,.code F328),(526,.codeR F422 0),(528,.codeR F457 0),(527,.codeR F527 0),(485,.code F485),(537,.codeR F421 0),(538,.codeR F538 0),(147,.code F147),(114,.code F114),(349,.code F349),(24,.code F24),(350,.code F350),(351,.code F351),(531,.codeR F531 0),(539,.codeR F539 0),(530,.codeR F530 0),(540,.codeR F540 0),(541,.codeR F541 0),(542,.codeR F542 0),(543,.codeR F543 0),(533,.code F460),(535,.code F488),(534,.code F534),(504,.code F504),(544,.code F459),(353,.code F353),(153,.code F153),(116,.code F116),(354,.code F354),(395,.code F395),(552,.code F552),(554,.code F554),(555,.code F555),(556,.code F556),(557,.code F557),(558,.code F558),(560,.code F560),(561,.code F561),(562,.code F562),(563,.code F563),(564,.code F564),(512,.code F512),(141,.code F141),(126,.code F126),(28,.code F28),(346,.code F346),(347,.code F347),(348,.code F348),(456,.code F456),(484,.code F484),(455,.code F455),(173,.code F173),(174,.code F174),(506,.code F506),(567,.codeR F567 0),(491,.code F491),(565,.codeR F565 0),(507,.code F507),(568,.codeR F568 0),(490,.code F490),(569,.codeR F569 0),(487,.code F487),(503,.code F503),(486,.code F486),(345,.code F345),(397,.code F397),(401,.code F401),(43,.code F43),(511,.code F511),(570,.code F570),(571,.code F571),(572,.code F572),(573,.code F573),(574,.code F574),(408,.code F408),(413,.code F413),(577,.code F577),(578,.code F578),(532,.codeR F532 0),(162,.code F162),(163,.code F163),(164,.code F164),(165,.code F165),(166,.code F166),(32,.code F32),(369,.code F369),(67,.code F67),(65,.code F65),(483,.code F483),(167,.code F167),(184,.code F184),(505,.code F505),(502,.code F502),(368,.code F368),(249,.code F249),(421,.codeR F421 0),(422,.codeR F422 0),(423,.codeR F423 0),(68,.code F68),(39,.code F39),(529,.code F529),(580,.code F580),(581,.code F581),(582,.code F582),(583,.code F583),(430,.code F430),(41,.code F41),(431,.code F431),(432,.code F432),(341,.code F341),(427,.code F427),(40,.code F40),(439,.code F439),(428,.code F428),(440,.code F440),(15,.code F15),(442,.code F442),(585,.code F585),(185,.code F185),(186,.code F186),(76,.code F76),(75,.code F75),(168,.code F168),(187,.code F187),(244,.code F244),(301,.code F301),(284,.code F284),(457,.codeR F457 0),(458,.codeR F458 0),(63,.code F63),(64,.code F64),(66,.code F66),(586,.code F586),(468,.code F468),(366,.code F366),(367,.code F367),(429,.code F429),(473,.code F473),(462,.code F462),(463,.code F463),(464,.codeR F464 0),(465,.codeR F465 0),(466,.codeR F466 0),(467,.codeR F467 0),(474,.code F474),(240,.code F240),(26,.code F26),(27,.code F27),(47,.code F47),(587,.code F587),(492,.codeR F492 0),(493,.codeR F493 0),(192,.code F192),(188,.code F188),(189,.code F189),(195,.code F195),(203,.code F203),(81,.code F81),(298,.code F298),(299,.code F299),(316,.code F316),(313,.code F313),(71,.code F71),(496,.code F496),(72,.code F72),(499,.code F499),(285,.code F285),(287,.code F287),(171,.code F171),(288,.code F288),(289,.code F289),(290,.code F290),(31,.code F31),(304,.code F304),(7,.code F7),(97,.code F97),(98,.code F98),(315,.code F315),(314,.code F314),(82,.code F82),(84,.code F84),(200,.code F200),(88,.code F88),(312,.code F312),(220,.code F220),(221,.code F221),(22,.code F22),(319,.code F319),(320,.code F320),(100,.code F100),(3,.code F3),(225,.code F225),(106,.code F106),(69,.prim (some 0) (cloneQ 1)),(170,.prim none keyQ),(497,.prim (some 0) (cloneQ 9)),(498,.prim (some 1009) noQ),(307,.prim (some 0) (cloneQ 17)),(190,.prim none decQ),(317,.prim (some 1017) noQ),(222,.prim (some 1002) noQ),(102,.prim (some 0) (cloneQ 11)),(103,.prim (some 1011) noQ),(23,.prim (some 0) (cloneQ 5)),(227,.prim (some 0) (cloneQ 2))]
set_option maxRecDepth 100000
theorem okc {P:Go.Program} {cx:Cx} {tab:List (Nat×Fn)} {k:Nat} {F:F} {l:List (Nat×Fn)} (h:okF P cx (look tab) (cx.fm k) F=true) (t:okTab P cx tab l=true):okTab P cx tab ((k,.code F)::l)=true:=by simp[okTab,h,t]
theorem okcr {P:Go.Program} {cx:Cx} {tab:List (Nat×Fn)} {k j:Nat} {F:F} {l:List (Nat×Fn)} (h:okF P cx (look tab) (cx.fm k) F=true) (h2:rfQ F j=true) (t:okTab P cx tab l=true):okTab P cx tab ((k,.codeR F j)::l)=true:=by simp[okTab,h,h2,t]
theorem okp {P:Go.Program} {cx:Cx} {tab:List (Nat×Fn)} {k:Nat} {o:Option Nat} {p} {l:List (Nat×Fn)} (h:plQ o=true) (t:okTab P cx tab l=true):okTab P cx tab ((k,.prim o p)::l)=true:=by simp[okTab,h,t]
noncomputable abbrev okq (n:Nat) (x:F):Bool:=okF Tryz.prog (cxU nodeFm) (look nodeTab) ((cxU nodeFm).fm n) x
theorem ok514:okq 514 F514=true:=by kernel_rfl
theorem ok515:okq 515 F324=true:=by kernel_rfl
theorem ok325:okq 325 F325=true:=by kernel_rfl
theorem ok510:okq 510 F510=true:=by kernel_rfl
theorem ok516:okq 516 F516=true:=by kernel_rfl
theorem ok329:okq 329 F329=true:=by kernel_rfl
theorem ok517:okq 517 F517=true:=by kernel_rfl
theorem ok518:okq 518 F518=true:=by kernel_rfl
theorem ok332:okq 332 F332=true:=by kernel_rfl
theorem ok344:okq 344 F344=true:=by kernel_rfl
theorem ok522:okq 522 F522=true:=by kernel_rfl
theorem ok523:okq 523 F523=true:=by kernel_rfl
theorem ok524:okq 524 F524=true:=by kernel_rfl
theorem ok525:okq 525 F525=true:=by kernel_rfl
theorem ok328:okq 328 F328=true:=by kernel_rfl
theorem ok526:okq 526 F422=true:=by kernel_rfl
theorem ok528:okq 528 F457=true:=by kernel_rfl
theorem ok527:okq 527 F527=true:=by kernel_rfl
theorem ok485:okq 485 F485=true:=by kernel_rfl
theorem ok537:okq 537 F421=true:=by kernel_rfl
theorem ok538:okq 538 F538=true:=by kernel_rfl
theorem ok147:okq 147 F147=true:=by kernel_rfl
theorem ok114:okq 114 F114=true:=by kernel_rfl
theorem ok349:okq 349 F349=true:=by kernel_rfl
theorem ok24:okq 24 F24=true:=by kernel_rfl
theorem ok350:okq 350 F350=true:=by kernel_rfl
theorem ok351:okq 351 F351=true:=by kernel_rfl
theorem ok531:okq 531 F531=true:=by kernel_rfl
theorem ok539:okq 539 F539=true:=by kernel_rfl
theorem ok530:okq 530 F530=true:=by kernel_rfl
theorem ok540:okq 540 F540=true:=by kernel_rfl
theorem ok541:okq 541 F541=true:=by kernel_rfl
theorem ok542:okq 542 F542=true:=by kernel_rfl
theorem ok543:okq 543 F543=true:=by kernel_rfl
theorem ok533:okq 533 F460=true:=by kernel_rfl
theorem ok535:okq 535 F488=true:=by kernel_rfl
theorem ok534:okq 534 F534=true:=by kernel_rfl
theorem ok504:okq 504 F504=true:=by kernel_rfl
theorem ok544:okq 544 F459=true:=by kernel_rfl
theorem ok353:okq 353 F353=true:=by kernel_rfl
theorem ok153:okq 153 F153=true:=by kernel_rfl
theorem ok116:okq 116 F116=true:=by kernel_rfl
theorem ok354:okq 354 F354=true:=by kernel_rfl
theorem ok395:okq 395 F395=true:=by kernel_rfl
theorem ok552:okq 552 F552=true:=by kernel_rfl
theorem ok554:okq 554 F554=true:=by kernel_rfl
theorem ok555:okq 555 F555=true:=by kernel_rfl
theorem ok556:okq 556 F556=true:=by kernel_rfl
theorem ok557:okq 557 F557=true:=by kernel_rfl
theorem ok558:okq 558 F558=true:=by kernel_rfl
theorem ok560:okq 560 F560=true:=by kernel_rfl
theorem ok561:okq 561 F561=true:=by kernel_rfl
theorem ok562:okq 562 F562=true:=by kernel_rfl
theorem ok563:okq 563 F563=true:=by kernel_rfl
theorem ok564:okq 564 F564=true:=by kernel_rfl
theorem ok512:okq 512 F512=true:=by kernel_rfl
theorem ok141:okq 141 F141=true:=by kernel_rfl
theorem ok126:okq 126 F126=true:=by kernel_rfl
theorem ok28:okq 28 F28=true:=by kernel_rfl
theorem ok346:okq 346 F346=true:=by kernel_rfl
theorem ok347:okq 347 F347=true:=by kernel_rfl
theorem ok348:okq 348 F348=true:=by kernel_rfl
theorem ok456:okq 456 F456=true:=by kernel_rfl
theorem ok484:okq 484 F484=true:=by kernel_rfl
theorem ok455:okq 455 F455=true:=by kernel_rfl
theorem ok173:okq 173 F173=true:=by kernel_rfl
theorem ok174:okq 174 F174=true:=by kernel_rfl
theorem ok506:okq 506 F506=true:=by kernel_rfl
theorem ok567:okq 567 F567=true:=by kernel_rfl
theorem ok491:okq 491 F491=true:=by kernel_rfl
theorem ok565:okq 565 F565=true:=by kernel_rfl
theorem ok507:okq 507 F507=true:=by kernel_rfl
theorem ok568:okq 568 F568=true:=by kernel_rfl
theorem ok490:okq 490 F490=true:=by kernel_rfl
theorem ok569:okq 569 F569=true:=by kernel_rfl
theorem ok487:okq 487 F487=true:=by kernel_rfl
theorem ok503:okq 503 F503=true:=by kernel_rfl
theorem ok486:okq 486 F486=true:=by kernel_rfl
theorem ok345:okq 345 F345=true:=by kernel_rfl
theorem ok397:okq 397 F397=true:=by kernel_rfl
theorem ok401:okq 401 F401=true:=by kernel_rfl
theorem ok43:okq 43 F43=true:=by kernel_rfl
theorem ok511:okq 511 F511=true:=by kernel_rfl
theorem ok570:okq 570 F570=true:=by kernel_rfl
theorem ok571:okq 571 F571=true:=by kernel_rfl
theorem ok572:okq 572 F572=true:=by kernel_rfl
theorem ok573:okq 573 F573=true:=by kernel_rfl
theorem ok574:okq 574 F574=true:=by kernel_rfl
theorem ok408:okq 408 F408=true:=by kernel_rfl
theorem ok413:okq 413 F413=true:=by kernel_rfl
theorem ok577:okq 577 F577=true:=by kernel_rfl
theorem ok578:okq 578 F578=true:=by kernel_rfl
theorem ok532:okq 532 F532=true:=by kernel_rfl
theorem ok162:okq 162 F162=true:=by kernel_rfl
theorem ok163:okq 163 F163=true:=by kernel_rfl
theorem ok164:okq 164 F164=true:=by kernel_rfl
theorem ok165:okq 165 F165=true:=by kernel_rfl
theorem ok166:okq 166 F166=true:=by kernel_rfl
theorem ok32:okq 32 F32=true:=by kernel_rfl
theorem ok369:okq 369 F369=true:=by kernel_rfl
theorem ok67:okq 67 F67=true:=by kernel_rfl
theorem ok65:okq 65 F65=true:=by kernel_rfl
theorem ok483:okq 483 F483=true:=by kernel_rfl
theorem ok167:okq 167 F167=true:=by kernel_rfl
theorem ok184:okq 184 F184=true:=by kernel_rfl
theorem ok505:okq 505 F505=true:=by kernel_rfl
theorem ok502:okq 502 F502=true:=by kernel_rfl
theorem ok368:okq 368 F368=true:=by kernel_rfl
theorem ok249:okq 249 F249=true:=by kernel_rfl
theorem ok421:okq 421 F421=true:=by kernel_rfl
theorem ok422:okq 422 F422=true:=by kernel_rfl
theorem ok423:okq 423 F423=true:=by kernel_rfl
theorem ok68:okq 68 F68=true:=by kernel_rfl
theorem ok39:okq 39 F39=true:=by kernel_rfl
theorem ok529:okq 529 F529=true:=by kernel_rfl
theorem ok580:okq 580 F580=true:=by kernel_rfl
theorem ok581:okq 581 F581=true:=by kernel_rfl
theorem ok582:okq 582 F582=true:=by kernel_rfl
theorem ok583:okq 583 F583=true:=by kernel_rfl
theorem ok430:okq 430 F430=true:=by kernel_rfl
theorem ok41:okq 41 F41=true:=by kernel_rfl
theorem ok431:okq 431 F431=true:=by kernel_rfl
theorem ok432:okq 432 F432=true:=by kernel_rfl
theorem ok341:okq 341 F341=true:=by kernel_rfl
theorem ok427:okq 427 F427=true:=by kernel_rfl
theorem ok40:okq 40 F40=true:=by kernel_rfl
theorem ok439:okq 439 F439=true:=by kernel_rfl
theorem ok428:okq 428 F428=true:=by kernel_rfl
theorem ok440:okq 440 F440=true:=by kernel_rfl
theorem ok15:okq 15 F15=true:=by kernel_rfl
theorem ok442:okq 442 F442=true:=by kernel_rfl
theorem ok585:okq 585 F585=true:=by kernel_rfl
theorem ok185:okq 185 F185=true:=by kernel_rfl
theorem ok186:okq 186 F186=true:=by kernel_rfl
theorem ok76:okq 76 F76=true:=by kernel_rfl
theorem ok75:okq 75 F75=true:=by kernel_rfl
theorem ok168:okq 168 F168=true:=by kernel_rfl
theorem ok187:okq 187 F187=true:=by kernel_rfl
theorem ok244:okq 244 F244=true:=by kernel_rfl
theorem ok301:okq 301 F301=true:=by kernel_rfl
theorem ok284:okq 284 F284=true:=by kernel_rfl
theorem ok457:okq 457 F457=true:=by kernel_rfl
theorem ok458:okq 458 F458=true:=by kernel_rfl
theorem ok63:okq 63 F63=true:=by kernel_rfl
theorem ok64:okq 64 F64=true:=by kernel_rfl
theorem ok66:okq 66 F66=true:=by kernel_rfl
theorem ok586:okq 586 F586=true:=by kernel_rfl
theorem ok468:okq 468 F468=true:=by kernel_rfl
theorem ok366:okq 366 F366=true:=by kernel_rfl
theorem ok367:okq 367 F367=true:=by kernel_rfl
theorem ok429:okq 429 F429=true:=by kernel_rfl
theorem ok473:okq 473 F473=true:=by kernel_rfl
theorem ok462:okq 462 F462=true:=by kernel_rfl
theorem ok463:okq 463 F463=true:=by kernel_rfl
theorem ok464:okq 464 F464=true:=by kernel_rfl
theorem ok465:okq 465 F465=true:=by kernel_rfl
theorem ok466:okq 466 F466=true:=by kernel_rfl
theorem ok467:okq 467 F467=true:=by kernel_rfl
theorem ok474:okq 474 F474=true:=by kernel_rfl
theorem ok240:okq 240 F240=true:=by kernel_rfl
theorem ok26:okq 26 F26=true:=by kernel_rfl
theorem ok27:okq 27 F27=true:=by kernel_rfl
theorem ok47:okq 47 F47=true:=by kernel_rfl
theorem ok587:okq 587 F587=true:=by kernel_rfl
theorem ok492:okq 492 F492=true:=by kernel_rfl
theorem ok493:okq 493 F493=true:=by kernel_rfl
theorem ok192:okq 192 F192=true:=by kernel_rfl
theorem ok188:okq 188 F188=true:=by kernel_rfl
theorem ok189:okq 189 F189=true:=by kernel_rfl
theorem ok195:okq 195 F195=true:=by kernel_rfl
theorem ok203:okq 203 F203=true:=by kernel_rfl
theorem ok81:okq 81 F81=true:=by kernel_rfl
theorem ok298:okq 298 F298=true:=by kernel_rfl
theorem ok299:okq 299 F299=true:=by kernel_rfl
theorem ok316:okq 316 F316=true:=by kernel_rfl
theorem ok313:okq 313 F313=true:=by kernel_rfl
theorem ok71:okq 71 F71=true:=by kernel_rfl
theorem ok496:okq 496 F496=true:=by kernel_rfl
theorem ok72:okq 72 F72=true:=by kernel_rfl
theorem ok499:okq 499 F499=true:=by kernel_rfl
theorem ok285:okq 285 F285=true:=by kernel_rfl
theorem ok287:okq 287 F287=true:=by kernel_rfl
theorem ok171:okq 171 F171=true:=by kernel_rfl
theorem ok288:okq 288 F288=true:=by kernel_rfl
theorem ok289:okq 289 F289=true:=by kernel_rfl
theorem ok290:okq 290 F290=true:=by kernel_rfl
theorem ok31:okq 31 F31=true:=by kernel_rfl
theorem ok304:okq 304 F304=true:=by kernel_rfl
theorem ok7:okq 7 F7=true:=by kernel_rfl
theorem ok97:okq 97 F97=true:=by kernel_rfl
theorem ok98:okq 98 F98=true:=by kernel_rfl
theorem ok315:okq 315 F315=true:=by kernel_rfl
theorem ok314:okq 314 F314=true:=by kernel_rfl
theorem ok82:okq 82 F82=true:=by kernel_rfl
theorem ok84:okq 84 F84=true:=by kernel_rfl
theorem ok200:okq 200 F200=true:=by kernel_rfl
theorem ok88:okq 88 F88=true:=by kernel_rfl
theorem ok312:okq 312 F312=true:=by kernel_rfl
theorem ok220:okq 220 F220=true:=by kernel_rfl
theorem ok221:okq 221 F221=true:=by kernel_rfl
theorem ok22:okq 22 F22=true:=by kernel_rfl
theorem ok319:okq 319 F319=true:=by kernel_rfl
theorem ok320:okq 320 F320=true:=by kernel_rfl
theorem ok100:okq 100 F100=true:=by kernel_rfl
theorem ok3:okq 3 F3=true:=by kernel_rfl
theorem ok225:okq 225 F225=true:=by kernel_rfl
theorem ok106:okq 106 F106=true:=by kernel_rfl
theorem okAll:okTab Tryz.prog (cxU nodeFm) nodeTab nodeTab=true:=okc ok514 (okc ok515 (okc ok325 (okc ok510 (okc ok516 (okc ok329 (okc ok517 (okc ok518 (okc ok332 (okc ok344 (okc ok522 (okc ok523 (okc ok524 (okc ok525 (okc ok328 (okcr ok526 rfl (okcr ok528 rfl (okcr ok527 rfl (okc ok485 (okcr ok537 rfl (okcr ok538 rfl (okc ok147 (okc ok114 (okc ok349 (okc ok24 (okc ok350 (okc ok351 (okcr ok531 rfl (okcr ok539 rfl (okcr ok530 rfl (okcr ok540 rfl (okcr ok541 rfl (okcr ok542 rfl (okcr ok543 rfl (okc ok533 (okc ok535 (okc ok534 (okc ok504 (okc ok544 (okc ok353 (okc ok153 (okc ok116 (okc ok354 (okc ok395 (okc ok552 (okc ok554 (okc ok555 (okc ok556 (okc ok557 (okc ok558 (okc ok560 (okc ok561 (okc ok562 (okc ok563 (okc ok564 (okc ok512 (okc ok141 (okc ok126 (okc ok28 (okc ok346 (okc ok347 (okc ok348 (okc ok456 (okc ok484 (okc ok455 (okc ok173 (okc ok174 (okc ok506 (okcr ok567 rfl (okc ok491 (okcr ok565 rfl (okc ok507 (okcr ok568 rfl (okc ok490 (okcr ok569 rfl (okc ok487 (okc ok503 (okc ok486 (okc ok345 (okc ok397 (okc ok401 (okc ok43 (okc ok511 (okc ok570 (okc ok571 (okc ok572 (okc ok573 (okc ok574 (okc ok408 (okc ok413 (okc ok577 (okc ok578 (okcr ok532 rfl (okc ok162 (okc ok163 (okc ok164 (okc ok165 (okc ok166 (okc ok32 (okc ok369 (okc ok67 (okc ok65 (okc ok483 (okc ok167 (okc ok184 (okc ok505 (okc ok502 (okc ok368 (okc ok249 (okcr ok421 rfl (okcr ok422 rfl (okcr ok423 rfl (okc ok68 (okc ok39 (okc ok529 (okc ok580 (okc ok581 (okc ok582 (okc ok583 (okc ok430 (okc ok41 (okc ok431 (okc ok432 (okc ok341 (okc ok427 (okc ok40 (okc ok439 (okc ok428 (okc ok440 (okc ok15 (okc ok442 (okc ok585 (okc ok185 (okc ok186 (okc ok76 (okc ok75 (okc ok168 (okc ok187 (okc ok244 (okc ok301 (okc ok284 (okcr ok457 rfl (okcr ok458 rfl (okc ok63 (okc ok64 (okc ok66 (okc ok586 (okc ok468 (okc ok366 (okc ok367 (okc ok429 (okc ok473 (okc ok462 (okc ok463 (okcr ok464 rfl (okcr ok465 rfl (okcr ok466 rfl (okcr ok467 rfl (okc ok474 (okc ok240 (okc ok26 (okc ok27 (okc ok47 (okc ok587 (okcr ok492 rfl (okcr ok493 rfl (okc ok192 (okc ok188 (okc ok189 (okc ok195 (okc ok203 (okc ok81 (okc ok298 (okc ok299 (okc ok316 (okc ok313 (okc ok71 (okc ok496 (okc ok72 (okc ok499 (okc ok285 (okc ok287 (okc ok171 (okc ok288 (okc ok289 (okc ok290 (okc ok31 (okc ok304 (okc ok7 (okc ok97 (okc ok98 (okc ok315 (okc ok314 (okc ok82 (okc ok84 (okc ok200 (okc ok88 (okc ok312 (okc ok220 (okc ok221 (okc ok22 (okc ok319 (okc ok320 (okc ok100 (okc ok3 (okc ok225 (okc ok106 (okp rfl (okp rfl (okp rfl (okp rfl (okp rfl (okp rfl (okp rfl (okp rfl (okp rfl (okp rfl (okp rfl (okp rfl (rfl)))))))))))))))))))))))))))))))))))))))))))))))))))))))))))))))))))))))))))))))))))))))))))))))))))))))))))))))))))))))))))))))))))))))))))))))))))))))))))))))))))))))))))))))))))))))))))))))))))))))))))))))))))))))))))
theorem okClone69:okF Tryz.prog (cxU nodeFm) (onePg 69 (cloneF 1 [.int .i64 0])) 190 (cloneF 1 [.int .i64 0])=true:=by kernel_rfl
theorem okClone497:okF Tryz.prog (cxU nodeFm) (onePg 497 (cloneF 9 [.int .i64 0,.int .i64 0,.int .i64 0,.slice 1 [],.int .i64 0,.str [],.str [],.slice 1 [],.slice 36 []])) 380 (cloneF 9 [.int .i64 0,.int .i64 0,.int .i64 0,.slice 1 [],.int .i64 0,.str [],.str [],.slice 1 [],.slice 36 []])=true:=by kernel_rfl
theorem okClone307:okF Tryz.prog (cxU nodeFm) (onePg 307 (cloneF 17 [.int .i64 0,.int .i64 0,.str [],.str [],.int .i64 0,.slice 2 [],.int .i64 0,.int .i64 0,.int .i64 0,.int .i64 0,.int .i64 0,.int .i64 0,.slice 11 [],.int .i64 0,.int .i64 0,.int .i64 0,.int .i64 0])) 394 (cloneF 17 [.int .i64 0,.int .i64 0,.str [],.str [],.int .i64 0,.slice 2 [],.int .i64 0,.int .i64 0,.int .i64 0,.int .i64 0,.int .i64 0,.int .i64 0,.slice 11 [],.int .i64 0,.int .i64 0,.int .i64 0,.int .i64 0])=true:=by kernel_rfl
theorem okClone102:okF Tryz.prog (cxU nodeFm) (onePg 102 (cloneF 11 [.int .i64 0,.int .i64 0,.int .i64 0,.int .i64 0,.int .i64 0,.int .i64 0,.bool false,.str [],.slice 2 [],.str [],.bool false])) 425 (cloneF 11 [.int .i64 0,.int .i64 0,.int .i64 0,.int .i64 0,.int .i64 0,.int .i64 0,.bool false,.str [],.slice 2 [],.str [],.bool false])=true:=by kernel_rfl
theorem okClone23:okF Tryz.prog (cxU nodeFm) (onePg 23 (cloneF 5 [.int .i64 0,.int .i64 0,.int .i64 0,.bool false,.str []])) 430 (cloneF 5 [.int .i64 0,.int .i64 0,.int .i64 0,.bool false,.str []])=true:=by kernel_rfl
theorem okClone227:okF Tryz.prog (cxU nodeFm) (onePg 227 (cloneF 2 [.str [],.slice 5 []])) 435 (cloneF 2 [.str [],.slice 5 []])=true:=by kernel_rfl
end Sg
namespace Sg
open Go Go.RowKit Go.Lib Go.Proofs
def insB:=And.intro Tryz.underlying0 (And.intro Tryz.underlying3 (And.intro Tryz.underlying4 (And.intro Tryz.isAgg0 (And.intro Tryz.isAgg3 (And.intro Tryz.isAgg4 (And.intro Tryz.sizeOf0 (And.intro Tryz.sizeOf3 (And.intro Tryz.sizeOf4 (And.intro Tryz.zeroValue0 (And.intro Tryz.zeroValue3 (And.intro Tryz.zeroValue4 (And.intro (run_underlying Tryz.underlying0) (And.intro (run_underlying Tryz.underlying3) ((run_underlying Tryz.underlying4)))))))))))))))
def insB381:=And.intro Tryz.underlying76 (And.intro Tryz.underlying22 (And.intro Tryz.isAgg76 (And.intro Tryz.isAgg22 (And.intro Tryz.sizeOf76 (And.intro Tryz.sizeOf22 (And.intro Tryz.zeroValue22 ((run_underlying Tryz.underlying22))))))))
set_option maxRecDepth 100000 in
theorem ins381_shift (b off n c i vb voff m vc:Nat) (cs vs:List Value) (w:World) (hi:i<n) (hm:0<m) (hroom:n+m≤c) (hlim:n+m≤1073741824) (hvb:vb≠b)
  (hcl:cs.length=n*9) (hvl:vs.length=m*9)
  (hcs:∀j v,cs[j]?=some v→w.cell? ⟨b,off+j,none⟩=some v) (hsp:∀j,j<(n+m)*9→(w.cell? ⟨b,off+j,none⟩).isSome=true) (hfz:∀j,w.frozen? ⟨b,j,none⟩=false)
  (hvs:∀j v,vs[j]?=some v→w.cell? ⟨vb,voff+j,none⟩=some v) (h1c:∀v∈cs,v.oneCell'=true) (h1v:∀v∈vs,v.oneCell'=true)
  (tA tB:TypeId) (kA kB:Nat) (hsa:w.shape? vb=some (tA,kA)) (hsb:w.shape? b=some (tB,kB)) (hkA:kA≠0) :
  Calls Tryz.prog 381 #[.slice (some ⟨b,off,none⟩) n c,.int .i64 i,.slice (some ⟨vb,voff,none⟩) m vc] w fun e w'=>
   e=.returned (.slice (some ⟨b,off,none⟩) (n+m) c)∧w'=(w.drew.setCells b (off+(i+m)*9) (cs.drop (i*9))).setCells b (off+i*9) vs:=by
 obtain⟨t0,t3,t4,a0,a3,a4,z0,z3,z4,v0,v3,v4,u0,u3,u4⟩:=insB
 obtain⟨t9,t24,a9,a24,z9,z24,v24,u24⟩:=insB381
 have hz1:¬((m:Int)=0):=by omega
 have hz2:¬((i:Int)=(n:Int)):=by omega
 have hsz:(Tryz.prog.info? 76).map (·.size)=some 9:=by kernel_rfl
 have hov:∀lb cb,(callFunc 405 #[.slice (some ⟨vb,voff,none⟩) m vc,.slice (some ⟨b,off+(i+m)*9,none⟩) lb cb]).run Tryz.prog w=.ok (.value (.bool false)) w:=fun lb cb=>by
  rw[run_callFunc_extern Tryz.func405 (by kernel_rfl) (by kernel_rfl) (by kernel_rfl) (e:=Extern.SlicesOverlaps.overlaps #[22,22] #[4]) (by kernel_rfl),
   run_overlaps_k w 22 4 76 t24 9 z9 ⟨vb,voff,none⟩ ⟨b,off+(i+m)*9,none⟩ m vc lb cb hvb tA tB kA kB hsa hsb hkA (hfz _) (hfz _)]
  rfl
 have mixed:Tryz.prog.follows .mixedOrders=true:=by kernel_rfl
 have hw1:IntKind.i64.wrap ((i:Int)+(m:Int))=(i:Int)+(m:Int):=by rw[IntKind.wrap_i64];omega
 have hb1:(0:Int)≤(i:Int)+(m:Int):=by omega
 have hin:i≤n:=by omega
 have htn:((i:Int)+(m:Int)).toNat=i+m:=by omega
 have hb2:¬(c=i+m):=by omega
 have hb3:(i:Int)≤(n:Int)+(m:Int):=by omega
 have hb4:¬(c=i):=by omega
 obtain⟨W1,hW1,hcp1,hcp2⟩:=ins_p1 t24 hsz b off n c i vb voff m vc cs vs w hi hm hvb hcl hvl hcs hsp hfz hvs h1c h1v
 go_enter Tryz.func381,Tryz.ntmps381
 go_wp2_with (simp only[hov])
 go_region_law_o (refine step_copy_k rfl _ _ 22 22 rfl _ _ (by simp[Act.eval,Act.put]) (by simp[Act.eval,Act.put]) (hcp1 _ _ _) ?_)
 go_wp2_with (at_builtin;refine wpList_copy_k _ rfl _ _ 22 22 rfl _ _ rfl rfl (hcp2 _ (fun _=>rfl) (fun _=>rfl) _ _) ?_)
 go_ret
 first|exact⟨rfl,rfl⟩|exact⟨rfl,by rw[hW1]⟩
set_option maxRecDepth 100000 in
theorem ins381_end (base:Option Addr) (n c m vc:Nat) (vb:Option Addr) (w w':World) (q:Value) (hm:0<m) (hnc:n≤c) (hlim:n+m≤1073741824) (hnil:base=none→n=0)
  (hrun:(Builtin.append_ #[22,22] 22 #[.slice base n c,.slice vb m vc]).run Tryz.prog w=.ok q w') :
  Calls Tryz.prog 381 #[.slice base n c,.int .i64 n,.slice vb m vc] w fun e w1=>e=.returned q∧w1=w':=by
 obtain⟨t0,t3,t4,a0,a3,a4,z0,z3,z4,v0,v3,v4,u0,u3,u4⟩:=insB
 obtain⟨t9,t24,a9,a24,z9,z24,v24,u24⟩:=insB381
 have mixed:Tryz.prog.follows .mixedOrders=true:=by kernel_rfl
 have hz1:¬((m:Int)=0):=by omega
 go_enter Tryz.func381,Tryz.ntmps381
 cases base with
 |none=>
  have h0:=hnil rfl
  subst h0
  go_wp2_with (at_builtin;refine Lib.wpList_append_run _ rfl _ _ _ _ rfl _ _ rfl rfl _ _ hrun ?_)
  all_goals (go_ret;exact⟨rfl,rfl⟩)
 |some a=>
  obtain⟨ab,ao,asp⟩:=a
  go_wp2_with (at_builtin;refine Lib.wpList_append_run _ rfl _ _ _ _ rfl _ _ rfl rfl _ _ hrun ?_)
  all_goals (go_ret;exact⟨rfl,rfl⟩)
set_option maxRecDepth 100000 in
theorem ins381_none (base:Option Addr) (n c i vc:Nat) (vb:Option Addr) (w:World) (hnc:n≤c) (hi:i≤n) (hnil:base=none→n=0) :
  Calls Tryz.prog 381 #[.slice base n c,.int .i64 i,.slice vb 0 vc] w fun e w1=>e=.returned (.slice base n c)∧w1=w:=by
 obtain⟨t0,t3,t4,a0,a3,a4,z0,z3,z4,v0,v3,v4,u0,u3,u4⟩:=insB
 obtain⟨t9,t24,a9,a24,z9,z24,v24,u24⟩:=insB381
 have mixed:Tryz.prog.follows .mixedOrders=true:=by kernel_rfl
 go_enter Tryz.func381,Tryz.ntmps381
 cases base with
 |none=>
  have h0:=hnil rfl
  subst h0
  have hi0:i=0:=by omega
  subst hi0
  go_wp2
  all_goals (go_ret;exact⟨rfl,rfl⟩)
 |some a=>
  obtain⟨ab,ao,asp⟩:=a
  go_wp2
  all_goals (go_ret;exact⟨rfl,rfl⟩)
set_option maxRecDepth 100000 in
theorem ins381_grow (b off n c i vb voff m vc:Nat) (cs vs:List Value) (w:World) (hi:i<n) (hm:0<m) (hnc:n≤c) (hroom:c<n+m) (hlim:n+m≤1073741824)
  (hcl:cs.length=n*9) (hvl:vs.length=m*9) (hbw:b<w.heap.size) (hvw:vb<w.heap.size)
  (hcs:∀j v,cs[j]?=some v→w.cell? ⟨b,off+j,none⟩=some v)
  (hvs:∀j v,vs[j]?=some v→w.cell? ⟨vb,voff+j,none⟩=some v) (h1c:∀v∈cs,v.oneCell'=true) (h1v:∀v∈vs,v.oneCell'=true) :
  Calls Tryz.prog 381 #[.slice (some ⟨b,off,none⟩) n c,.int .i64 i,.slice (some ⟨vb,voff,none⟩) m vc] w fun e w'=>
   ∃(G:Nat) (ROW:Array Value) (d1:Nat),n+m≤G∧(n+m)*9≤ROW.size∧ROW.size=G*9∧(∀(j:Nat) (v:Value),(cs.take (i*9))[j]?=some v→ROW[j]?=some v)∧e=.returned (.slice (some ⟨w.heap.size,0,none⟩) (n+m) G)∧
   w'=((({w with drawn:=d1}:World).alloc (.cells ROW 76)).setCells w.heap.size (i*9) vs).setCells w.heap.size ((i+m)*9) (cs.drop (i*9)):=by
 obtain⟨t0,t3,t4,a0,a3,a4,z0,z3,z4,v0,v3,v4,u0,u3,u4⟩:=insB
 obtain⟨t9,t24,a9,a24,z9,z24,v24,u24⟩:=insB381
 have mixed:Tryz.prog.follows .mixedOrders=true:=by kernel_rfl
 obtain⟨i0,hi0,hz0,hzs,hzb⟩:∃i0,Tryz.prog.info? 76=some i0∧i0.zero=some (Value.agg #[.int .i64 0,.int .i64 0,.int .i64 0,.slice none 0 0,.int .i64 0,.string ⟨#[]⟩,.string ⟨#[]⟩,.slice none 0 0,.slice none 0 0])∧i0.size=9∧i0.bytes=136:=⟨_,rfl,rfl,rfl,rfl⟩
 have hz1:¬((m:Int)=0):=by omega
 have hz2:¬((i:Int)=(n:Int)):=by omega
 have hz3:(c:Int)<(n:Int)+(m:Int):=by omega
 obtain⟨G,ROW,hGn,hRl,hRs,hRt,hG63,hrz,hcpA,hcpB⟩:=ins_p2 t24 t3 i0 (Value.agg #[.int .i64 0,.int .i64 0,.int .i64 0,.slice none 0 0,.int .i64 0,.string ⟨#[]⟩,.string ⟨#[]⟩,.slice none 0 0,.slice none 0 0]) hi0 hz0 hzs (by decide) (by rw[hzb];decide) (fun k=>by simp[Builtin.zeroCells,Value.cells]) b off n c i vb voff m vc cs vs w hi hm hnc hroom hlim hcl hvl hbw hvw hcs hvs h1c h1v
 have hGi:¬(G=i):=by omega
 have hGim:¬(G=i+m):=by omega
 have hci:¬(c=i):=by omega
 have hE1:∀x,((w.alloc (.cells ROW 76)).drew).cell? x=(w.drew.alloc (.cells ROW 76)).cell? x:=fun x=>rfl
 have hE2:∀x,((w.alloc (.cells ROW 76)).drew).frozen? x=(w.drew.alloc (.cells ROW 76)).frozen? x:=fun x=>rfl
 have hF1:∀x,(((w.alloc (.cells ROW 76)).drew.setCells w.heap.size (i*9) vs).drew).cell? x=((w.drew.alloc (.cells ROW 76)).setCells w.heap.size (i*9) vs).cell? x:=fun x=>rfl
 have hF2:∀x,(((w.alloc (.cells ROW 76)).drew.setCells w.heap.size (i*9) vs).drew).frozen? x=((w.drew.alloc (.cells ROW 76)).setCells w.heap.size (i*9) vs).frozen? x:=fun x=>rfl
 have hw1:IntKind.i64.wrap ((i:Int)+(m:Int))=(i:Int)+(m:Int):=by rw[IntKind.wrap_i64];omega
 have hb1:(0:Int)≤(i:Int)+(m:Int):=by omega
 have hin:i≤n:=by omega
 have htn:((i:Int)+(m:Int)).toNat=i+m:=by omega
 have hb3:(i:Int)≤(n:Int):=by omega
 go_enter Tryz.func381,Tryz.ntmps381
 go_wp2_with (first
  |(at_builtin;refine Lib.wpList_append_run _ rfl _ _ _ _ rfl _ _ rfl rfl _ _ (hrz _) ?_)
  |(at_builtin;refine wpList_copy_k _ rfl _ _ 22 22 rfl _ _ rfl rfl (hcpA _ hE1 hE2 _ _) ?_)
  |(at_builtin;refine wpList_copy_k _ rfl _ _ 22 22 rfl _ _ rfl rfl (hcpB _ (fun _=>rfl) (fun _=>rfl) _ _ _) ?_))
 go_region_law_o (refine step_copy_k rfl _ _ 22 22 rfl (.slice (some ⟨w.heap.size,(i+m)*9,none⟩) (n+m-(i+m)) (G-(i+m))) (.slice (some ⟨b,off+i*9,none⟩) (n-i) (c-i)) (by simp[Act.eval,Act.put]) (by simp[Act.eval,Act.put]) (hcpB _ hF1 hF2 3 (G-(i+m)) (c-i)) ?_)
 go_wp2
 go_ret
 exact⟨G,ROW,w.drew.drew.drawn,hGn,hRl,hRs,hRt,rfl,by first|rfl|(rw[drew_setK];rfl)|(simp only[drew_setK];rfl)⟩
theorem insC381:InsC Tryz.prog 381 9 22 76 where
 ent:=⟨Tryz.f381,Tryz.func381,by kernel_rfl,by kernel_rfl⟩
 hS:=Tryz.underlying22
 hz:=by kernel_rfl
 pos:=by decide
 info:=⟨_,(Value.agg #[.int .i64 0,.int .i64 0,.int .i64 0,.slice none 0 0,.int .i64 0,.string ⟨#[]⟩,.string ⟨#[]⟩,.slice none 0 0,.slice none 0 0]),rfl,by decide,rfl,rfl⟩
 nothing:=fun base n c i vc vb w h1 h2 h3=>ins381_none base n c i vc vb w h1 h2 h3
 end_:=fun base n c m vc vb w w' q h1 h2 h3 h4 h5=>ins381_end base n c m vc vb w w' q h1 h2 h3 h4 h5
 shift:=fun b off n c i vb voff m vc cs vs w h1 h2 h3 h4 h5 h6 h7 h8 h9 h10 h11 h12 h13 tA tB kA kB h14 h15 h16=>ins381_shift b off n c i vb voff m vc cs vs w h1 h2 h3 h4 h5 h6 h7 h8 h9 h10 h11 h12 h13 tA tB kA kB h14 h15 h16
 grow:=fun b off n c i vb voff m vc cs vs w h1 h2 h3 h4 h5 h6 h7 h8 h9 h10 h11 h12 h13=>ins381_grow b off n c i vb voff m vc cs vs w h1 h2 h3 h4 h5 h6 h7 h8 h9 h10 h11 h12 h13
def insB415:=And.intro Tryz.underlying246 (And.intro Tryz.underlying105 (And.intro Tryz.isAgg246 (And.intro Tryz.isAgg105 (And.intro Tryz.sizeOf246 (And.intro Tryz.sizeOf105 (And.intro Tryz.zeroValue105 ((run_underlying Tryz.underlying105))))))))
set_option maxRecDepth 100000 in
theorem ins415_shift (b off n c i vb voff m vc:Nat) (cs vs:List Value) (w:World) (hi:i<n) (hm:0<m) (hroom:n+m≤c) (hlim:n+m≤1073741824) (hvb:vb≠b)
  (hcl:cs.length=n*17) (hvl:vs.length=m*17)
  (hcs:∀j v,cs[j]?=some v→w.cell? ⟨b,off+j,none⟩=some v) (hsp:∀j,j<(n+m)*17→(w.cell? ⟨b,off+j,none⟩).isSome=true) (hfz:∀j,w.frozen? ⟨b,j,none⟩=false)
  (hvs:∀j v,vs[j]?=some v→w.cell? ⟨vb,voff+j,none⟩=some v) (h1c:∀v∈cs,v.oneCell'=true) (h1v:∀v∈vs,v.oneCell'=true)
  (tA tB:TypeId) (kA kB:Nat) (hsa:w.shape? vb=some (tA,kA)) (hsb:w.shape? b=some (tB,kB)) (hkA:kA≠0) :
  Calls Tryz.prog 415 #[.slice (some ⟨b,off,none⟩) n c,.int .i64 i,.slice (some ⟨vb,voff,none⟩) m vc] w fun e w'=>
   e=.returned (.slice (some ⟨b,off,none⟩) (n+m) c)∧w'=(w.drew.setCells b (off+(i+m)*17) (cs.drop (i*17))).setCells b (off+i*17) vs:=by
 obtain⟨t0,t3,t4,a0,a3,a4,z0,z3,z4,v0,v3,v4,u0,u3,u4⟩:=insB
 obtain⟨t9,t24,a9,a24,z9,z24,v24,u24⟩:=insB415
 have hz1:¬((m:Int)=0):=by omega
 have hz2:¬((i:Int)=(n:Int)):=by omega
 have hsz:(Tryz.prog.info? 246).map (·.size)=some 17:=by kernel_rfl
 have hov:∀lb cb,(callFunc 431 #[.slice (some ⟨vb,voff,none⟩) m vc,.slice (some ⟨b,off+(i+m)*17,none⟩) lb cb]).run Tryz.prog w=.ok (.value (.bool false)) w:=fun lb cb=>by
  rw[run_callFunc_extern Tryz.func431 (by kernel_rfl) (by kernel_rfl) (by kernel_rfl) (e:=Extern.SlicesOverlaps.overlaps #[105,105] #[4]) (by kernel_rfl),
   run_overlaps_k w 105 4 246 t24 17 z9 ⟨vb,voff,none⟩ ⟨b,off+(i+m)*17,none⟩ m vc lb cb hvb tA tB kA kB hsa hsb hkA (hfz _) (hfz _)]
  rfl
 have mixed:Tryz.prog.follows .mixedOrders=true:=by kernel_rfl
 have hw1:IntKind.i64.wrap ((i:Int)+(m:Int))=(i:Int)+(m:Int):=by rw[IntKind.wrap_i64];omega
 have hb1:(0:Int)≤(i:Int)+(m:Int):=by omega
 have hin:i≤n:=by omega
 have htn:((i:Int)+(m:Int)).toNat=i+m:=by omega
 have hb2:¬(c=i+m):=by omega
 have hb3:(i:Int)≤(n:Int)+(m:Int):=by omega
 have hb4:¬(c=i):=by omega
 obtain⟨W1,hW1,hcp1,hcp2⟩:=ins_p1 t24 hsz b off n c i vb voff m vc cs vs w hi hm hvb hcl hvl hcs hsp hfz hvs h1c h1v
 go_enter Tryz.func415,Tryz.ntmps415
 go_wp2_with (simp only[hov])
 go_region_law_o (refine step_copy_k rfl _ _ 105 105 rfl _ _ (by simp[Act.eval,Act.put]) (by simp[Act.eval,Act.put]) (hcp1 _ _ _) ?_)
 go_wp2_with (at_builtin;refine wpList_copy_k _ rfl _ _ 105 105 rfl _ _ rfl rfl (hcp2 _ (fun _=>rfl) (fun _=>rfl) _ _) ?_)
 go_ret
 first|exact⟨rfl,rfl⟩|exact⟨rfl,by rw[hW1]⟩
set_option maxRecDepth 100000 in
theorem ins415_end (base:Option Addr) (n c m vc:Nat) (vb:Option Addr) (w w':World) (q:Value) (hm:0<m) (hnc:n≤c) (hlim:n+m≤1073741824) (hnil:base=none→n=0)
  (hrun:(Builtin.append_ #[105,105] 105 #[.slice base n c,.slice vb m vc]).run Tryz.prog w=.ok q w') :
  Calls Tryz.prog 415 #[.slice base n c,.int .i64 n,.slice vb m vc] w fun e w1=>e=.returned q∧w1=w':=by
 obtain⟨t0,t3,t4,a0,a3,a4,z0,z3,z4,v0,v3,v4,u0,u3,u4⟩:=insB
 obtain⟨t9,t24,a9,a24,z9,z24,v24,u24⟩:=insB415
 have mixed:Tryz.prog.follows .mixedOrders=true:=by kernel_rfl
 have hz1:¬((m:Int)=0):=by omega
 go_enter Tryz.func415,Tryz.ntmps415
 cases base with
 |none=>
  have h0:=hnil rfl
  subst h0
  go_wp2_with (at_builtin;refine Lib.wpList_append_run _ rfl _ _ _ _ rfl _ _ rfl rfl _ _ hrun ?_)
  all_goals (go_ret;exact⟨rfl,rfl⟩)
 |some a=>
  obtain⟨ab,ao,asp⟩:=a
  go_wp2_with (at_builtin;refine Lib.wpList_append_run _ rfl _ _ _ _ rfl _ _ rfl rfl _ _ hrun ?_)
  all_goals (go_ret;exact⟨rfl,rfl⟩)
set_option maxRecDepth 100000 in
theorem ins415_none (base:Option Addr) (n c i vc:Nat) (vb:Option Addr) (w:World) (hnc:n≤c) (hi:i≤n) (hnil:base=none→n=0) :
  Calls Tryz.prog 415 #[.slice base n c,.int .i64 i,.slice vb 0 vc] w fun e w1=>e=.returned (.slice base n c)∧w1=w:=by
 obtain⟨t0,t3,t4,a0,a3,a4,z0,z3,z4,v0,v3,v4,u0,u3,u4⟩:=insB
 obtain⟨t9,t24,a9,a24,z9,z24,v24,u24⟩:=insB415
 have mixed:Tryz.prog.follows .mixedOrders=true:=by kernel_rfl
 go_enter Tryz.func415,Tryz.ntmps415
 cases base with
 |none=>
  have h0:=hnil rfl
  subst h0
  have hi0:i=0:=by omega
  subst hi0
  go_wp2
  all_goals (go_ret;exact⟨rfl,rfl⟩)
 |some a=>
  obtain⟨ab,ao,asp⟩:=a
  go_wp2
  all_goals (go_ret;exact⟨rfl,rfl⟩)
set_option maxRecDepth 100000 in
theorem ins415_grow (b off n c i vb voff m vc:Nat) (cs vs:List Value) (w:World) (hi:i<n) (hm:0<m) (hnc:n≤c) (hroom:c<n+m) (hlim:n+m≤1073741824)
  (hcl:cs.length=n*17) (hvl:vs.length=m*17) (hbw:b<w.heap.size) (hvw:vb<w.heap.size)
  (hcs:∀j v,cs[j]?=some v→w.cell? ⟨b,off+j,none⟩=some v)
  (hvs:∀j v,vs[j]?=some v→w.cell? ⟨vb,voff+j,none⟩=some v) (h1c:∀v∈cs,v.oneCell'=true) (h1v:∀v∈vs,v.oneCell'=true) :
  Calls Tryz.prog 415 #[.slice (some ⟨b,off,none⟩) n c,.int .i64 i,.slice (some ⟨vb,voff,none⟩) m vc] w fun e w'=>
   ∃(G:Nat) (ROW:Array Value) (d1:Nat),n+m≤G∧(n+m)*17≤ROW.size∧ROW.size=G*17∧(∀(j:Nat) (v:Value),(cs.take (i*17))[j]?=some v→ROW[j]?=some v)∧e=.returned (.slice (some ⟨w.heap.size,0,none⟩) (n+m) G)∧
   w'=((({w with drawn:=d1}:World).alloc (.cells ROW 246)).setCells w.heap.size (i*17) vs).setCells w.heap.size ((i+m)*17) (cs.drop (i*17)):=by
 obtain⟨t0,t3,t4,a0,a3,a4,z0,z3,z4,v0,v3,v4,u0,u3,u4⟩:=insB
 obtain⟨t9,t24,a9,a24,z9,z24,v24,u24⟩:=insB415
 have mixed:Tryz.prog.follows .mixedOrders=true:=by kernel_rfl
 obtain⟨i0,hi0,hz0,hzs,hzb⟩:∃i0,Tryz.prog.info? 246=some i0∧i0.zero=some (Value.agg #[.int .i64 0,.int .i64 0,.string ⟨#[]⟩,.string ⟨#[]⟩,.int .i64 0,.slice none 0 0,.int .i64 0,.int .i64 0,.int .i64 0,.int .i64 0,.int .i64 0,.int .i64 0,.slice none 0 0,.int .i64 0,.int .i64 0,.int .i64 0,.int .i64 0])∧i0.size=17∧i0.bytes=184:=⟨_,rfl,rfl,rfl,rfl⟩
 have hz1:¬((m:Int)=0):=by omega
 have hz2:¬((i:Int)=(n:Int)):=by omega
 have hz3:(c:Int)<(n:Int)+(m:Int):=by omega
 obtain⟨G,ROW,hGn,hRl,hRs,hRt,hG63,hrz,hcpA,hcpB⟩:=ins_p2 t24 t3 i0 (Value.agg #[.int .i64 0,.int .i64 0,.string ⟨#[]⟩,.string ⟨#[]⟩,.int .i64 0,.slice none 0 0,.int .i64 0,.int .i64 0,.int .i64 0,.int .i64 0,.int .i64 0,.int .i64 0,.slice none 0 0,.int .i64 0,.int .i64 0,.int .i64 0,.int .i64 0]) hi0 hz0 hzs (by decide) (by rw[hzb];decide) (fun k=>by simp[Builtin.zeroCells,Value.cells]) b off n c i vb voff m vc cs vs w hi hm hnc hroom hlim hcl hvl hbw hvw hcs hvs h1c h1v
 have hGi:¬(G=i):=by omega
 have hGim:¬(G=i+m):=by omega
 have hci:¬(c=i):=by omega
 have hE1:∀x,((w.alloc (.cells ROW 246)).drew).cell? x=(w.drew.alloc (.cells ROW 246)).cell? x:=fun x=>rfl
 have hE2:∀x,((w.alloc (.cells ROW 246)).drew).frozen? x=(w.drew.alloc (.cells ROW 246)).frozen? x:=fun x=>rfl
 have hF1:∀x,(((w.alloc (.cells ROW 246)).drew.setCells w.heap.size (i*17) vs).drew).cell? x=((w.drew.alloc (.cells ROW 246)).setCells w.heap.size (i*17) vs).cell? x:=fun x=>rfl
 have hF2:∀x,(((w.alloc (.cells ROW 246)).drew.setCells w.heap.size (i*17) vs).drew).frozen? x=((w.drew.alloc (.cells ROW 246)).setCells w.heap.size (i*17) vs).frozen? x:=fun x=>rfl
 have hw1:IntKind.i64.wrap ((i:Int)+(m:Int))=(i:Int)+(m:Int):=by rw[IntKind.wrap_i64];omega
 have hb1:(0:Int)≤(i:Int)+(m:Int):=by omega
 have hin:i≤n:=by omega
 have htn:((i:Int)+(m:Int)).toNat=i+m:=by omega
 have hb3:(i:Int)≤(n:Int):=by omega
 go_enter Tryz.func415,Tryz.ntmps415
 go_wp2_with (first
  |(at_builtin;refine Lib.wpList_append_run _ rfl _ _ _ _ rfl _ _ rfl rfl _ _ (hrz _) ?_)
  |(at_builtin;refine wpList_copy_k _ rfl _ _ 105 105 rfl _ _ rfl rfl (hcpA _ hE1 hE2 _ _) ?_)
  |(at_builtin;refine wpList_copy_k _ rfl _ _ 105 105 rfl _ _ rfl rfl (hcpB _ (fun _=>rfl) (fun _=>rfl) _ _ _) ?_))
 go_region_law_o (refine step_copy_k rfl _ _ 105 105 rfl (.slice (some ⟨w.heap.size,(i+m)*17,none⟩) (n+m-(i+m)) (G-(i+m))) (.slice (some ⟨b,off+i*17,none⟩) (n-i) (c-i)) (by simp[Act.eval,Act.put]) (by simp[Act.eval,Act.put]) (hcpB _ hF1 hF2 3 (G-(i+m)) (c-i)) ?_)
 go_wp2
 go_ret
 exact⟨G,ROW,w.drew.drew.drawn,hGn,hRl,hRs,hRt,rfl,by first|rfl|(rw[drew_setK];rfl)|(simp only[drew_setK];rfl)⟩
theorem insC415:InsC Tryz.prog 415 17 105 246 where
 ent:=⟨Tryz.f415,Tryz.func415,by kernel_rfl,by kernel_rfl⟩
 hS:=Tryz.underlying105
 hz:=by kernel_rfl
 pos:=by decide
 info:=⟨_,(Value.agg #[.int .i64 0,.int .i64 0,.string ⟨#[]⟩,.string ⟨#[]⟩,.int .i64 0,.slice none 0 0,.int .i64 0,.int .i64 0,.int .i64 0,.int .i64 0,.int .i64 0,.int .i64 0,.slice none 0 0,.int .i64 0,.int .i64 0,.int .i64 0,.int .i64 0]),rfl,by decide,rfl,rfl⟩
 nothing:=fun base n c i vc vb w h1 h2 h3=>ins415_none base n c i vc vb w h1 h2 h3
 end_:=fun base n c m vc vb w w' q h1 h2 h3 h4 h5=>ins415_end base n c m vc vb w w' q h1 h2 h3 h4 h5
 shift:=fun b off n c i vb voff m vc cs vs w h1 h2 h3 h4 h5 h6 h7 h8 h9 h10 h11 h12 h13 tA tB kA kB h14 h15 h16=>ins415_shift b off n c i vb voff m vc cs vs w h1 h2 h3 h4 h5 h6 h7 h8 h9 h10 h11 h12 h13 tA tB kA kB h14 h15 h16
 grow:=fun b off n c i vb voff m vc cs vs w h1 h2 h3 h4 h5 h6 h7 h8 h9 h10 h11 h12 h13=>ins415_grow b off n c i vb voff m vc cs vs w h1 h2 h3 h4 h5 h6 h7 h8 h9 h10 h11 h12 h13
def insB424:=And.intro Tryz.underlying272 (And.intro Tryz.underlying243 (And.intro Tryz.isAgg272 (And.intro Tryz.isAgg243 (And.intro Tryz.sizeOf272 (And.intro Tryz.sizeOf243 (And.intro Tryz.zeroValue243 ((run_underlying Tryz.underlying243))))))))
set_option maxRecDepth 100000 in
theorem ins424_shift (b off n c i vb voff m vc:Nat) (cs vs:List Value) (w:World) (hi:i<n) (hm:0<m) (hroom:n+m≤c) (hlim:n+m≤1073741824) (hvb:vb≠b)
  (hcl:cs.length=n*2) (hvl:vs.length=m*2)
  (hcs:∀j v,cs[j]?=some v→w.cell? ⟨b,off+j,none⟩=some v) (hsp:∀j,j<(n+m)*2→(w.cell? ⟨b,off+j,none⟩).isSome=true) (hfz:∀j,w.frozen? ⟨b,j,none⟩=false)
  (hvs:∀j v,vs[j]?=some v→w.cell? ⟨vb,voff+j,none⟩=some v) (h1c:∀v∈cs,v.oneCell'=true) (h1v:∀v∈vs,v.oneCell'=true)
  (tA tB:TypeId) (kA kB:Nat) (hsa:w.shape? vb=some (tA,kA)) (hsb:w.shape? b=some (tB,kB)) (hkA:kA≠0) :
  Calls Tryz.prog 424 #[.slice (some ⟨b,off,none⟩) n c,.int .i64 i,.slice (some ⟨vb,voff,none⟩) m vc] w fun e w'=>
   e=.returned (.slice (some ⟨b,off,none⟩) (n+m) c)∧w'=(w.drew.setCells b (off+(i+m)*2) (cs.drop (i*2))).setCells b (off+i*2) vs:=by
 obtain⟨t0,t3,t4,a0,a3,a4,z0,z3,z4,v0,v3,v4,u0,u3,u4⟩:=insB
 obtain⟨t9,t24,a9,a24,z9,z24,v24,u24⟩:=insB424
 have hz1:¬((m:Int)=0):=by omega
 have hz2:¬((i:Int)=(n:Int)):=by omega
 have hsz:(Tryz.prog.info? 272).map (·.size)=some 2:=by kernel_rfl
 have hov:∀lb cb,(callFunc 439 #[.slice (some ⟨vb,voff,none⟩) m vc,.slice (some ⟨b,off+(i+m)*2,none⟩) lb cb]).run Tryz.prog w=.ok (.value (.bool false)) w:=fun lb cb=>by
  rw[run_callFunc_extern Tryz.func439 (by kernel_rfl) (by kernel_rfl) (by kernel_rfl) (e:=Extern.SlicesOverlaps.overlaps #[243,243] #[4]) (by kernel_rfl),
   run_overlaps_k w 243 4 272 t24 2 z9 ⟨vb,voff,none⟩ ⟨b,off+(i+m)*2,none⟩ m vc lb cb hvb tA tB kA kB hsa hsb hkA (hfz _) (hfz _)]
  rfl
 have mixed:Tryz.prog.follows .mixedOrders=true:=by kernel_rfl
 have hw1:IntKind.i64.wrap ((i:Int)+(m:Int))=(i:Int)+(m:Int):=by rw[IntKind.wrap_i64];omega
 have hb1:(0:Int)≤(i:Int)+(m:Int):=by omega
 have hin:i≤n:=by omega
 have htn:((i:Int)+(m:Int)).toNat=i+m:=by omega
 have hb2:¬(c=i+m):=by omega
 have hb3:(i:Int)≤(n:Int)+(m:Int):=by omega
 have hb4:¬(c=i):=by omega
 obtain⟨W1,hW1,hcp1,hcp2⟩:=ins_p1 t24 hsz b off n c i vb voff m vc cs vs w hi hm hvb hcl hvl hcs hsp hfz hvs h1c h1v
 go_enter Tryz.func424,Tryz.ntmps424
 go_wp2_with (simp only[hov])
 go_region_law_o (refine step_copy_k rfl _ _ 243 243 rfl _ _ (by simp[Act.eval,Act.put]) (by simp[Act.eval,Act.put]) (hcp1 _ _ _) ?_)
 go_wp2_with (at_builtin;refine wpList_copy_k _ rfl _ _ 243 243 rfl _ _ rfl rfl (hcp2 _ (fun _=>rfl) (fun _=>rfl) _ _) ?_)
 go_ret
 first|exact⟨rfl,rfl⟩|exact⟨rfl,by rw[hW1]⟩
set_option maxRecDepth 100000 in
theorem ins424_end (base:Option Addr) (n c m vc:Nat) (vb:Option Addr) (w w':World) (q:Value) (hm:0<m) (hnc:n≤c) (hlim:n+m≤1073741824) (hnil:base=none→n=0)
  (hrun:(Builtin.append_ #[243,243] 243 #[.slice base n c,.slice vb m vc]).run Tryz.prog w=.ok q w') :
  Calls Tryz.prog 424 #[.slice base n c,.int .i64 n,.slice vb m vc] w fun e w1=>e=.returned q∧w1=w':=by
 obtain⟨t0,t3,t4,a0,a3,a4,z0,z3,z4,v0,v3,v4,u0,u3,u4⟩:=insB
 obtain⟨t9,t24,a9,a24,z9,z24,v24,u24⟩:=insB424
 have mixed:Tryz.prog.follows .mixedOrders=true:=by kernel_rfl
 have hz1:¬((m:Int)=0):=by omega
 go_enter Tryz.func424,Tryz.ntmps424
 cases base with
 |none=>
  have h0:=hnil rfl
  subst h0
  go_wp2_with (at_builtin;refine Lib.wpList_append_run _ rfl _ _ _ _ rfl _ _ rfl rfl _ _ hrun ?_)
  all_goals (go_ret;exact⟨rfl,rfl⟩)
 |some a=>
  obtain⟨ab,ao,asp⟩:=a
  go_wp2_with (at_builtin;refine Lib.wpList_append_run _ rfl _ _ _ _ rfl _ _ rfl rfl _ _ hrun ?_)
  all_goals (go_ret;exact⟨rfl,rfl⟩)
set_option maxRecDepth 100000 in
theorem ins424_none (base:Option Addr) (n c i vc:Nat) (vb:Option Addr) (w:World) (hnc:n≤c) (hi:i≤n) (hnil:base=none→n=0) :
  Calls Tryz.prog 424 #[.slice base n c,.int .i64 i,.slice vb 0 vc] w fun e w1=>e=.returned (.slice base n c)∧w1=w:=by
 obtain⟨t0,t3,t4,a0,a3,a4,z0,z3,z4,v0,v3,v4,u0,u3,u4⟩:=insB
 obtain⟨t9,t24,a9,a24,z9,z24,v24,u24⟩:=insB424
 have mixed:Tryz.prog.follows .mixedOrders=true:=by kernel_rfl
 go_enter Tryz.func424,Tryz.ntmps424
 cases base with
 |none=>
  have h0:=hnil rfl
  subst h0
  have hi0:i=0:=by omega
  subst hi0
  go_wp2
  all_goals (go_ret;exact⟨rfl,rfl⟩)
 |some a=>
  obtain⟨ab,ao,asp⟩:=a
  go_wp2
  all_goals (go_ret;exact⟨rfl,rfl⟩)
set_option maxRecDepth 100000 in
theorem ins424_grow (b off n c i vb voff m vc:Nat) (cs vs:List Value) (w:World) (hi:i<n) (hm:0<m) (hnc:n≤c) (hroom:c<n+m) (hlim:n+m≤1073741824)
  (hcl:cs.length=n*2) (hvl:vs.length=m*2) (hbw:b<w.heap.size) (hvw:vb<w.heap.size)
  (hcs:∀j v,cs[j]?=some v→w.cell? ⟨b,off+j,none⟩=some v)
  (hvs:∀j v,vs[j]?=some v→w.cell? ⟨vb,voff+j,none⟩=some v) (h1c:∀v∈cs,v.oneCell'=true) (h1v:∀v∈vs,v.oneCell'=true) :
  Calls Tryz.prog 424 #[.slice (some ⟨b,off,none⟩) n c,.int .i64 i,.slice (some ⟨vb,voff,none⟩) m vc] w fun e w'=>
   ∃(G:Nat) (ROW:Array Value) (d1:Nat),n+m≤G∧(n+m)*2≤ROW.size∧ROW.size=G*2∧(∀(j:Nat) (v:Value),(cs.take (i*2))[j]?=some v→ROW[j]?=some v)∧e=.returned (.slice (some ⟨w.heap.size,0,none⟩) (n+m) G)∧
   w'=((({w with drawn:=d1}:World).alloc (.cells ROW 272)).setCells w.heap.size (i*2) vs).setCells w.heap.size ((i+m)*2) (cs.drop (i*2)):=by
 obtain⟨t0,t3,t4,a0,a3,a4,z0,z3,z4,v0,v3,v4,u0,u3,u4⟩:=insB
 obtain⟨t9,t24,a9,a24,z9,z24,v24,u24⟩:=insB424
 have mixed:Tryz.prog.follows .mixedOrders=true:=by kernel_rfl
 obtain⟨i0,hi0,hz0,hzs,hzb⟩:∃i0,Tryz.prog.info? 272=some i0∧i0.zero=some (Value.agg #[.string ⟨#[]⟩,.slice none 0 0])∧i0.size=2∧i0.bytes=40:=⟨_,rfl,rfl,rfl,rfl⟩
 have hz1:¬((m:Int)=0):=by omega
 have hz2:¬((i:Int)=(n:Int)):=by omega
 have hz3:(c:Int)<(n:Int)+(m:Int):=by omega
 obtain⟨G,ROW,hGn,hRl,hRs,hRt,hG63,hrz,hcpA,hcpB⟩:=ins_p2 t24 t3 i0 (Value.agg #[.string ⟨#[]⟩,.slice none 0 0]) hi0 hz0 hzs (by decide) (by rw[hzb];decide) (fun k=>by simp[Builtin.zeroCells,Value.cells]) b off n c i vb voff m vc cs vs w hi hm hnc hroom hlim hcl hvl hbw hvw hcs hvs h1c h1v
 have hGi:¬(G=i):=by omega
 have hGim:¬(G=i+m):=by omega
 have hci:¬(c=i):=by omega
 have hE1:∀x,((w.alloc (.cells ROW 272)).drew).cell? x=(w.drew.alloc (.cells ROW 272)).cell? x:=fun x=>rfl
 have hE2:∀x,((w.alloc (.cells ROW 272)).drew).frozen? x=(w.drew.alloc (.cells ROW 272)).frozen? x:=fun x=>rfl
 have hF1:∀x,(((w.alloc (.cells ROW 272)).drew.setCells w.heap.size (i*2) vs).drew).cell? x=((w.drew.alloc (.cells ROW 272)).setCells w.heap.size (i*2) vs).cell? x:=fun x=>rfl
 have hF2:∀x,(((w.alloc (.cells ROW 272)).drew.setCells w.heap.size (i*2) vs).drew).frozen? x=((w.drew.alloc (.cells ROW 272)).setCells w.heap.size (i*2) vs).frozen? x:=fun x=>rfl
 have hw1:IntKind.i64.wrap ((i:Int)+(m:Int))=(i:Int)+(m:Int):=by rw[IntKind.wrap_i64];omega
 have hb1:(0:Int)≤(i:Int)+(m:Int):=by omega
 have hin:i≤n:=by omega
 have htn:((i:Int)+(m:Int)).toNat=i+m:=by omega
 have hb3:(i:Int)≤(n:Int):=by omega
 go_enter Tryz.func424,Tryz.ntmps424
 go_wp2_with (first
  |(at_builtin;refine Lib.wpList_append_run _ rfl _ _ _ _ rfl _ _ rfl rfl _ _ (hrz _) ?_)
  |(at_builtin;refine wpList_copy_k _ rfl _ _ 243 243 rfl _ _ rfl rfl (hcpA _ hE1 hE2 _ _) ?_)
  |(at_builtin;refine wpList_copy_k _ rfl _ _ 243 243 rfl _ _ rfl rfl (hcpB _ (fun _=>rfl) (fun _=>rfl) _ _ _) ?_))
 go_region_law_o (refine step_copy_k rfl _ _ 243 243 rfl (.slice (some ⟨w.heap.size,(i+m)*2,none⟩) (n+m-(i+m)) (G-(i+m))) (.slice (some ⟨b,off+i*2,none⟩) (n-i) (c-i)) (by simp[Act.eval,Act.put]) (by simp[Act.eval,Act.put]) (hcpB _ hF1 hF2 3 (G-(i+m)) (c-i)) ?_)
 go_wp2
 go_ret
 exact⟨G,ROW,w.drew.drew.drawn,hGn,hRl,hRs,hRt,rfl,by first|rfl|(rw[drew_setK];rfl)|(simp only[drew_setK];rfl)⟩
theorem insC424:InsC Tryz.prog 424 2 243 272 where
 ent:=⟨Tryz.f424,Tryz.func424,by kernel_rfl,by kernel_rfl⟩
 hS:=Tryz.underlying243
 hz:=by kernel_rfl
 pos:=by decide
 info:=⟨_,(Value.agg #[.string ⟨#[]⟩,.slice none 0 0]),rfl,by decide,rfl,rfl⟩
 nothing:=fun base n c i vc vb w h1 h2 h3=>ins424_none base n c i vc vb w h1 h2 h3
 end_:=fun base n c m vc vb w w' q h1 h2 h3 h4 h5=>ins424_end base n c m vc vb w w' q h1 h2 h3 h4 h5
 shift:=fun b off n c i vb voff m vc cs vs w h1 h2 h3 h4 h5 h6 h7 h8 h9 h10 h11 h12 h13 tA tB kA kB h14 h15 h16=>ins424_shift b off n c i vb voff m vc cs vs w h1 h2 h3 h4 h5 h6 h7 h8 h9 h10 h11 h12 h13 tA tB kA kB h14 h15 h16
 grow:=fun b off n c i vb voff m vc cs vs w h1 h2 h3 h4 h5 h6 h7 h8 h9 h10 h11 h12 h13=>ins424_grow b off n c i vb voff m vc cs vs w h1 h2 h3 h4 h5 h6 h7 h8 h9 h10 h11 h12 h13
def insB426:=And.intro Tryz.underlying276 (And.intro Tryz.underlying244 (And.intro Tryz.isAgg276 (And.intro Tryz.isAgg244 (And.intro Tryz.sizeOf276 (And.intro Tryz.sizeOf244 (And.intro Tryz.zeroValue244 ((run_underlying Tryz.underlying244))))))))
set_option maxRecDepth 100000 in
theorem ins426_shift (b off n c i vb voff m vc:Nat) (cs vs:List Value) (w:World) (hi:i<n) (hm:0<m) (hroom:n+m≤c) (hlim:n+m≤1073741824) (hvb:vb≠b)
  (hcl:cs.length=n*11) (hvl:vs.length=m*11)
  (hcs:∀j v,cs[j]?=some v→w.cell? ⟨b,off+j,none⟩=some v) (hsp:∀j,j<(n+m)*11→(w.cell? ⟨b,off+j,none⟩).isSome=true) (hfz:∀j,w.frozen? ⟨b,j,none⟩=false)
  (hvs:∀j v,vs[j]?=some v→w.cell? ⟨vb,voff+j,none⟩=some v) (h1c:∀v∈cs,v.oneCell'=true) (h1v:∀v∈vs,v.oneCell'=true)
  (tA tB:TypeId) (kA kB:Nat) (hsa:w.shape? vb=some (tA,kA)) (hsb:w.shape? b=some (tB,kB)) (hkA:kA≠0) :
  Calls Tryz.prog 426 #[.slice (some ⟨b,off,none⟩) n c,.int .i64 i,.slice (some ⟨vb,voff,none⟩) m vc] w fun e w'=>
   e=.returned (.slice (some ⟨b,off,none⟩) (n+m) c)∧w'=(w.drew.setCells b (off+(i+m)*11) (cs.drop (i*11))).setCells b (off+i*11) vs:=by
 obtain⟨t0,t3,t4,a0,a3,a4,z0,z3,z4,v0,v3,v4,u0,u3,u4⟩:=insB
 obtain⟨t9,t24,a9,a24,z9,z24,v24,u24⟩:=insB426
 have hz1:¬((m:Int)=0):=by omega
 have hz2:¬((i:Int)=(n:Int)):=by omega
 have hsz:(Tryz.prog.info? 276).map (·.size)=some 11:=by kernel_rfl
 have hov:∀lb cb,(callFunc 441 #[.slice (some ⟨vb,voff,none⟩) m vc,.slice (some ⟨b,off+(i+m)*11,none⟩) lb cb]).run Tryz.prog w=.ok (.value (.bool false)) w:=fun lb cb=>by
  rw[run_callFunc_extern Tryz.func441 (by kernel_rfl) (by kernel_rfl) (by kernel_rfl) (e:=Extern.SlicesOverlaps.overlaps #[244,244] #[4]) (by kernel_rfl),
   run_overlaps_k w 244 4 276 t24 11 z9 ⟨vb,voff,none⟩ ⟨b,off+(i+m)*11,none⟩ m vc lb cb hvb tA tB kA kB hsa hsb hkA (hfz _) (hfz _)]
  rfl
 have mixed:Tryz.prog.follows .mixedOrders=true:=by kernel_rfl
 have hw1:IntKind.i64.wrap ((i:Int)+(m:Int))=(i:Int)+(m:Int):=by rw[IntKind.wrap_i64];omega
 have hb1:(0:Int)≤(i:Int)+(m:Int):=by omega
 have hin:i≤n:=by omega
 have htn:((i:Int)+(m:Int)).toNat=i+m:=by omega
 have hb2:¬(c=i+m):=by omega
 have hb3:(i:Int)≤(n:Int)+(m:Int):=by omega
 have hb4:¬(c=i):=by omega
 obtain⟨W1,hW1,hcp1,hcp2⟩:=ins_p1 t24 hsz b off n c i vb voff m vc cs vs w hi hm hvb hcl hvl hcs hsp hfz hvs h1c h1v
 go_enter Tryz.func426,Tryz.ntmps426
 go_wp2_with (simp only[hov])
 go_region_law_o (refine step_copy_k rfl _ _ 244 244 rfl _ _ (by simp[Act.eval,Act.put]) (by simp[Act.eval,Act.put]) (hcp1 _ _ _) ?_)
 go_wp2_with (at_builtin;refine wpList_copy_k _ rfl _ _ 244 244 rfl _ _ rfl rfl (hcp2 _ (fun _=>rfl) (fun _=>rfl) _ _) ?_)
 go_ret
 first|exact⟨rfl,rfl⟩|exact⟨rfl,by rw[hW1]⟩
set_option maxRecDepth 100000 in
theorem ins426_end (base:Option Addr) (n c m vc:Nat) (vb:Option Addr) (w w':World) (q:Value) (hm:0<m) (hnc:n≤c) (hlim:n+m≤1073741824) (hnil:base=none→n=0)
  (hrun:(Builtin.append_ #[244,244] 244 #[.slice base n c,.slice vb m vc]).run Tryz.prog w=.ok q w') :
  Calls Tryz.prog 426 #[.slice base n c,.int .i64 n,.slice vb m vc] w fun e w1=>e=.returned q∧w1=w':=by
 obtain⟨t0,t3,t4,a0,a3,a4,z0,z3,z4,v0,v3,v4,u0,u3,u4⟩:=insB
 obtain⟨t9,t24,a9,a24,z9,z24,v24,u24⟩:=insB426
 have mixed:Tryz.prog.follows .mixedOrders=true:=by kernel_rfl
 have hz1:¬((m:Int)=0):=by omega
 go_enter Tryz.func426,Tryz.ntmps426
 cases base with
 |none=>
  have h0:=hnil rfl
  subst h0
  go_wp2_with (at_builtin;refine Lib.wpList_append_run _ rfl _ _ _ _ rfl _ _ rfl rfl _ _ hrun ?_)
  all_goals (go_ret;exact⟨rfl,rfl⟩)
 |some a=>
  obtain⟨ab,ao,asp⟩:=a
  go_wp2_with (at_builtin;refine Lib.wpList_append_run _ rfl _ _ _ _ rfl _ _ rfl rfl _ _ hrun ?_)
  all_goals (go_ret;exact⟨rfl,rfl⟩)
set_option maxRecDepth 100000 in
theorem ins426_none (base:Option Addr) (n c i vc:Nat) (vb:Option Addr) (w:World) (hnc:n≤c) (hi:i≤n) (hnil:base=none→n=0) :
  Calls Tryz.prog 426 #[.slice base n c,.int .i64 i,.slice vb 0 vc] w fun e w1=>e=.returned (.slice base n c)∧w1=w:=by
 obtain⟨t0,t3,t4,a0,a3,a4,z0,z3,z4,v0,v3,v4,u0,u3,u4⟩:=insB
 obtain⟨t9,t24,a9,a24,z9,z24,v24,u24⟩:=insB426
 have mixed:Tryz.prog.follows .mixedOrders=true:=by kernel_rfl
 go_enter Tryz.func426,Tryz.ntmps426
 cases base with
 |none=>
  have h0:=hnil rfl
  subst h0
  have hi0:i=0:=by omega
  subst hi0
  go_wp2
  all_goals (go_ret;exact⟨rfl,rfl⟩)
 |some a=>
  obtain⟨ab,ao,asp⟩:=a
  go_wp2
  all_goals (go_ret;exact⟨rfl,rfl⟩)
set_option maxRecDepth 100000 in
theorem ins426_grow (b off n c i vb voff m vc:Nat) (cs vs:List Value) (w:World) (hi:i<n) (hm:0<m) (hnc:n≤c) (hroom:c<n+m) (hlim:n+m≤1073741824)
  (hcl:cs.length=n*11) (hvl:vs.length=m*11) (hbw:b<w.heap.size) (hvw:vb<w.heap.size)
  (hcs:∀j v,cs[j]?=some v→w.cell? ⟨b,off+j,none⟩=some v)
  (hvs:∀j v,vs[j]?=some v→w.cell? ⟨vb,voff+j,none⟩=some v) (h1c:∀v∈cs,v.oneCell'=true) (h1v:∀v∈vs,v.oneCell'=true) :
  Calls Tryz.prog 426 #[.slice (some ⟨b,off,none⟩) n c,.int .i64 i,.slice (some ⟨vb,voff,none⟩) m vc] w fun e w'=>
   ∃(G:Nat) (ROW:Array Value) (d1:Nat),n+m≤G∧(n+m)*11≤ROW.size∧ROW.size=G*11∧(∀(j:Nat) (v:Value),(cs.take (i*11))[j]?=some v→ROW[j]?=some v)∧e=.returned (.slice (some ⟨w.heap.size,0,none⟩) (n+m) G)∧
   w'=((({w with drawn:=d1}:World).alloc (.cells ROW 276)).setCells w.heap.size (i*11) vs).setCells w.heap.size ((i+m)*11) (cs.drop (i*11)):=by
 obtain⟨t0,t3,t4,a0,a3,a4,z0,z3,z4,v0,v3,v4,u0,u3,u4⟩:=insB
 obtain⟨t9,t24,a9,a24,z9,z24,v24,u24⟩:=insB426
 have mixed:Tryz.prog.follows .mixedOrders=true:=by kernel_rfl
 obtain⟨i0,hi0,hz0,hzs,hzb⟩:∃i0,Tryz.prog.info? 276=some i0∧i0.zero=some (Value.agg #[.int .i64 0,.int .i64 0,.int .i64 0,.int .i64 0,.int .i64 0,.int .i64 0,.bool false,.string ⟨#[]⟩,.slice none 0 0,.string ⟨#[]⟩,.bool false])∧i0.size=11∧i0.bytes=120:=⟨_,rfl,rfl,rfl,rfl⟩
 have hz1:¬((m:Int)=0):=by omega
 have hz2:¬((i:Int)=(n:Int)):=by omega
 have hz3:(c:Int)<(n:Int)+(m:Int):=by omega
 obtain⟨G,ROW,hGn,hRl,hRs,hRt,hG63,hrz,hcpA,hcpB⟩:=ins_p2 t24 t3 i0 (Value.agg #[.int .i64 0,.int .i64 0,.int .i64 0,.int .i64 0,.int .i64 0,.int .i64 0,.bool false,.string ⟨#[]⟩,.slice none 0 0,.string ⟨#[]⟩,.bool false]) hi0 hz0 hzs (by decide) (by rw[hzb];decide) (fun k=>by simp[Builtin.zeroCells,Value.cells]) b off n c i vb voff m vc cs vs w hi hm hnc hroom hlim hcl hvl hbw hvw hcs hvs h1c h1v
 have hGi:¬(G=i):=by omega
 have hGim:¬(G=i+m):=by omega
 have hci:¬(c=i):=by omega
 have hE1:∀x,((w.alloc (.cells ROW 276)).drew).cell? x=(w.drew.alloc (.cells ROW 276)).cell? x:=fun x=>rfl
 have hE2:∀x,((w.alloc (.cells ROW 276)).drew).frozen? x=(w.drew.alloc (.cells ROW 276)).frozen? x:=fun x=>rfl
 have hF1:∀x,(((w.alloc (.cells ROW 276)).drew.setCells w.heap.size (i*11) vs).drew).cell? x=((w.drew.alloc (.cells ROW 276)).setCells w.heap.size (i*11) vs).cell? x:=fun x=>rfl
 have hF2:∀x,(((w.alloc (.cells ROW 276)).drew.setCells w.heap.size (i*11) vs).drew).frozen? x=((w.drew.alloc (.cells ROW 276)).setCells w.heap.size (i*11) vs).frozen? x:=fun x=>rfl
 have hw1:IntKind.i64.wrap ((i:Int)+(m:Int))=(i:Int)+(m:Int):=by rw[IntKind.wrap_i64];omega
 have hb1:(0:Int)≤(i:Int)+(m:Int):=by omega
 have hin:i≤n:=by omega
 have htn:((i:Int)+(m:Int)).toNat=i+m:=by omega
 have hb3:(i:Int)≤(n:Int):=by omega
 go_enter Tryz.func426,Tryz.ntmps426
 go_wp2_with (first
  |(at_builtin;refine Lib.wpList_append_run _ rfl _ _ _ _ rfl _ _ rfl rfl _ _ (hrz _) ?_)
  |(at_builtin;refine wpList_copy_k _ rfl _ _ 244 244 rfl _ _ rfl rfl (hcpA _ hE1 hE2 _ _) ?_)
  |(at_builtin;refine wpList_copy_k _ rfl _ _ 244 244 rfl _ _ rfl rfl (hcpB _ (fun _=>rfl) (fun _=>rfl) _ _ _) ?_))
 go_region_law_o (refine step_copy_k rfl _ _ 244 244 rfl (.slice (some ⟨w.heap.size,(i+m)*11,none⟩) (n+m-(i+m)) (G-(i+m))) (.slice (some ⟨b,off+i*11,none⟩) (n-i) (c-i)) (by simp[Act.eval,Act.put]) (by simp[Act.eval,Act.put]) (hcpB _ hF1 hF2 3 (G-(i+m)) (c-i)) ?_)
 go_wp2
 go_ret
 exact⟨G,ROW,w.drew.drew.drawn,hGn,hRl,hRs,hRt,rfl,by first|rfl|(rw[drew_setK];rfl)|(simp only[drew_setK];rfl)⟩
theorem insC426:InsC Tryz.prog 426 11 244 276 where
 ent:=⟨Tryz.f426,Tryz.func426,by kernel_rfl,by kernel_rfl⟩
 hS:=Tryz.underlying244
 hz:=by kernel_rfl
 pos:=by decide
 info:=⟨_,(Value.agg #[.int .i64 0,.int .i64 0,.int .i64 0,.int .i64 0,.int .i64 0,.int .i64 0,.bool false,.string ⟨#[]⟩,.slice none 0 0,.string ⟨#[]⟩,.bool false]),rfl,by decide,rfl,rfl⟩
 nothing:=fun base n c i vc vb w h1 h2 h3=>ins426_none base n c i vc vb w h1 h2 h3
 end_:=fun base n c m vc vb w w' q h1 h2 h3 h4 h5=>ins426_end base n c m vc vb w w' q h1 h2 h3 h4 h5
 shift:=fun b off n c i vb voff m vc cs vs w h1 h2 h3 h4 h5 h6 h7 h8 h9 h10 h11 h12 h13 tA tB kA kB h14 h15 h16=>ins426_shift b off n c i vb voff m vc cs vs w h1 h2 h3 h4 h5 h6 h7 h8 h9 h10 h11 h12 h13 tA tB kA kB h14 h15 h16
 grow:=fun b off n c i vb voff m vc cs vs w h1 h2 h3 h4 h5 h6 h7 h8 h9 h10 h11 h12 h13=>ins426_grow b off n c i vb voff m vc cs vs w h1 h2 h3 h4 h5 h6 h7 h8 h9 h10 h11 h12 h13
end Sg
namespace Sg
open _root_.Go (IntKind BinOp UnOp)
variable {Pg:PgT}
theorem Yg {i n:Nat} (h:decide ((i:Int)<(n:Int))=true):i<n:=by simpa using h
theorem Yo {i n:Nat} (hi:i≤n) (h:decide ((i:Int)<(n:Int))=false):i=n:=by
 have:¬i<n:=by simpa using h
 omega
theorem Yi {i n:Nat} (h:i<n) (hn:n<2 ^ 60):IntKind.i64.wrap ((i:Int)+1)=((i+1:Nat):Int):=JiV (by omega) (by omega)
theorem Ybv {n:Nat} (h:0<n) (hn:n<2 ^ 60):IntKind.i64.wrap ((n:Int)-1)=((n-1:Nat):Int):=by rw[JiV (by omega) (by omega)];omega
theorem Yx {α:Type} {l:List α} {i:Nat} {x:α} (h:l[i]?=some x):l.take (i+1)=l.take i++[x]:=by rw[GY,h];rfl
theorem Yau {α:Type} {l:List α} {i:Nat} (h:i=l.length):l.take i=l:=by rw[h,Gz]
theorem YcI {n:Nat}:decide ((0:Int)<(n:Int))=!decide (n=0):=by cases n<;>simp
end Sg
namespace Sg
open _root_.Go
theorem Yc2 (n a b c d:Nat):1≤(Lib.decodeN n a b c d).2∧(Lib.decodeN n a b c d).2≤4:=by
 unfold Lib.decodeN
 repeat' split
 all_goals simp
theorem Yd7 (l:List UInt8):1≤(dN l).2:=(Yc2 ..).1
def YbD:Nat→List UInt8→List Int
 |0,_=>[]
 |f+1,l=>if l=[] then [] else ((dN l).1:Int)::YbD f (l.drop (dN l).2)
def Yl (l:List UInt8):List Int:=YbD l.length l
theorem YaJ {l:List UInt8} (h:l≠[]):(l.drop (dN l).2).length<l.length:=by
 have:=Yd7 l;have:0<l.length:=Gam.2 h;rw[GR];omega
theorem Yb1:∀(f:Nat) (l:List UInt8),l.length≤f→YbD f l=Yl l
 |0,l,h=>by
  obtain rfl:l=[]:=Gv (by omega)
  rfl
 |f+1,l,h=>by
  by_cases hl:l=[]
  ·subst hl;simp[YbD,Yl]
  ·have hd:=YaJ hl;have h1:=Yb1 f (l.drop (dN l).2) (by omega);obtain⟨n,hn⟩:∃n,l.length=n+1:=⟨l.length-1,by omega⟩;have h2:YbD n (l.drop (dN l).2)=Yl (l.drop (dN l).2):=Yb1 n _ (by omega);have e:Yl l=((dN l).1:Int)::YbD n (l.drop (dN l).2):=by
    rw[Yl,hn];simp only[YbD,hl,GI]
   rw[e,h2];simp only[YbD,hl,GI,h1]
 termination_by f=>f
theorem Yay:Yl []=[]:=rfl
theorem YT {l:List UInt8} (h:l≠[]):Yl l=((dN l).1:Int)::Yl (l.drop (dN l).2):=by
 have hd:=YaJ h;obtain⟨n,hn⟩:∃n,l.length=n+1:=⟨l.length-1,by omega⟩;rw[Yl,hn];simp only[YbD,h,GI];rw[Yb1 n _ (by omega)]
theorem Yb2:∀(n:Nat) (l:List UInt8),l.length≤n→(Yl l).length≤l.length
 |0,l,h=>by
  obtain rfl:l=[]:=Gv (by omega);simp[Yay]
 |n+1,l,h=>by
  by_cases hl:l=[]
  ·subst hl;simp[Yay]
  ·have hd:=YaJ hl;have:=Yb2 n (l.drop (dN l).2) (by omega);rw[YT hl];simp only[List.length_cons];omega
theorem YbM:∀(f:Nat) (l:List UInt8),l.length≤f→keyAll f l=keyAll l.length l
 |0,l,h=>by
  obtain rfl:l=[]:=Gv (by omega)
  rfl
 |f+1,l,h=>by
  by_cases hl:l=[]
  ·subst hl;simp[keyAll]
  ·have hd:=YaJ hl;have h1:=YbM f (l.drop (dN l).2) (by omega);obtain⟨n,hn⟩:∃n,l.length=n+1:=⟨l.length-1,by omega⟩;have h2:=YbM n (l.drop (dN l).2) (by omega);have e:keyAll l.length l=(plainR (dN l).1 (dN l).2&&keyAll n (l.drop (dN l).2)):=by
    rw[hn];simp only[keyAll,hl,GI]
   rw[e,h2];simp only[keyAll,hl,GI,h1]
 termination_by f=>f
theorem YcF {f:Nat}:keyAll f []=true:=by cases f<;>simp[keyAll]
theorem Ybm {l:List UInt8} (h:l≠[]):keyAll l.length l=(plainR (dN l).1 (dN l).2&&keyAll (l.drop (dN l).2).length (l.drop (dN l).2)):=by
 have hd:=YaJ h;obtain⟨n,hn⟩:∃n,l.length=n+1:=⟨l.length-1,by omega⟩;rw[hn];simp only[keyAll,h,GI];rw[YbM n _ (by omega)]
def YU:Int→List UInt8→Option Int
 |a,[]=>some a
 |a,b::l=>if b.toNat<128∨191<b.toNat then none else YU (64*a+b.toNat-128) l
def cls (a:Int):Nat×Int×Int:=
 if 194≤a∧a<224 then (2,128,a-192) else if 224≤a∧a<240 then (3,2048,a-224) else if 240≤a∧a<245 then (4,65536,a-240) else (0,0,a)
def YaW (l:List UInt8):Int×Int:=
 match l with
 |[]=>(-1,1)
 |b::t=>if b.toNat<128 then ((b.toNat:Int),1) else
  if (cls b.toNat).1=0∨l.length<(cls b.toNat).1 then (-1,1) else
   match YU (cls b.toNat).2.2 (t.take ((cls b.toNat).1-1)) with
   |none=>(-1,1)
   |some v=>if v<(cls b.toNat).2.1∨1114111<v∨(55296≤v∧v<57344) then (-1,1) else (v,(cls b.toNat).1)
theorem Yey {n a b c d:Nat} (h:(128≤a∧a<194)∨(245≤a∧a<256)):Lib.decodeN n a b c d=(65533,1):=by
 unfold Lib.decodeN
 repeat' split
 all_goals first|(exfalso;omega)|rfl
theorem YdK {n a b c d:Nat} (h:194≤a∧a<224):Lib.decodeN n a b c d=if 1<n∧b / 64=2 then (a % 32*64+b % 64,2) else (65533,1):=by
 unfold Lib.decodeN
 repeat' split
 all_goals first|(exfalso;omega)|rfl
theorem YdL {n a b c d:Nat} (h:224≤a∧a<240):Lib.decodeN n a b c d=if (1<n∧b / 64=2)∧(2<n∧c / 64=2)∧2048≤a % 16*4096+b % 64*64+c % 64∧(a % 16*4096+b % 64*64+c % 64<55296∨57344≤a % 16*4096+b % 64*64+c % 64) then (a % 16*4096+b % 64*64+c % 64,3) else (65533,1):=by
 unfold Lib.decodeN
 repeat' split
 all_goals first|(exfalso;omega)|rfl
theorem Yda {n a b c d:Nat} (h:240≤a∧a<245):Lib.decodeN n a b c d=if (1<n∧b / 64=2)∧(2<n∧c / 64=2)∧(3<n∧d / 64=2)∧65536≤a % 8*262144+b % 64*4096+c % 64*64+d % 64∧a % 8*262144+b % 64*4096+c % 64*64+d % 64≤1114111 then (a % 8*262144+b % 64*4096+c % 64*64+d % 64,4) else (65533,1):=by
 unfold Lib.decodeN
 repeat' split
 all_goals first|(exfalso;omega)|rfl
theorem Yez {n a b c d:Nat} (h:a<128):Lib.decodeN n a b c d=(a,1):=by
 unfold Lib.decodeN;rw[Gx h]
theorem YbW {b:UInt8}:(b.toNat<128∨191<b.toNat)↔¬b.toNat / 64=2:=by omega
theorem YbT {l:List UInt8} (h:l≠[]):YaW l=if dN l=(65533,1) then (-1,1) else (((dN l).1:Int),((dN l).2:Int)):=by
 obtain⟨b0,t,rfl⟩:=List.exists_cons_of_ne_nil h;have l0:=b0.toNat_lt;have e0:(b0::t).getD 0 0=b0:=rfl;have e1:(b0::t).getD 1 0=t.getD 0 0:=rfl;have e2:(b0::t).getD 2 0=t.getD 1 0:=rfl;have e3:(b0::t).getD 3 0=t.getD 2 0:=rfl;simp only[YaW,dN,e0,e1,e2,e3,List.length_cons];by_cases c1:b0.toNat<128
 ·rw[Gx c1,Yez c1,Gq (by intro e;simp at e;omega)];rfl
 rw[Gq c1];by_cases c2:194≤b0.toNat∧b0.toNat<224
 ·rw[YdK c2,show cls b0.toNat=(2,128,(b0.toNat:Int)-192) from Gx (by omega)]
  match t with
  |[]=>simp
  |b1::t=>
   have l1:=b1.toNat_lt;simp only[Gan,List.length_cons,List.take_succ_cons,List.take_zero,YU,YbW];by_cases d1:b1.toNat / 64=2
   ·have e:(1<t.length+1+1∧b1.toNat / 64=2):=⟨by omega,d1⟩;simp only[d1,e];simp
    repeat' split
    all_goals first|(exfalso;omega)|(simp;omega)|omega
   ·simp[d1]
 by_cases c3:224≤b0.toNat∧b0.toNat<240
 ·rw[YdL c3,show cls b0.toNat=(3,2048,(b0.toNat:Int)-224) from by rw[cls,Gq (by omega),Gx (by omega)]]
  match t with
  |[]=>simp
  |[b1]=>simp
  |b1::b2::t=>
   have l1:=b1.toNat_lt;have l2:=b2.toNat_lt;simp only[Gan,List.getD_cons_succ,List.length_cons,List.take_succ_cons,List.take_zero,YU,YbW];by_cases d1:b1.toNat / 64=2
   ·by_cases d2:b2.toNat / 64=2
    ·have hv:64*(64*((b0.toNat:Int)-224)+b1.toNat-128)+b2.toNat-128=((b0.toNat % 16*4096+b1.toNat % 64*64+b2.toNat % 64:Nat):Int):=by omega
     have hn:¬(3=0∨t.length+1+1+1<3):=by omega
     simp only[d1,d2,not_true_eq_false,GI,hv,hn];obtain⟨v,hve,hvb⟩:∃v,b0.toNat % 16*4096+b1.toNat % 64*64+b2.toNat % 64=v∧v<65536:=⟨_,rfl,by omega⟩;rw[hve];by_cases c:2048≤v∧(v<55296∨57344≤v)
     ·have hD:(if (1<t.length+1+1+1∧True)∧(2<t.length+1+1+1∧True)∧2048≤v∧(v<55296∨57344≤v) then (v,3) else ((65533,1):Nat×Nat))=(v,3):=Gx ⟨⟨by omega,Gn⟩,⟨by omega,Gn⟩,c.1,c.2⟩;rw[hD,Gq (by omega),Gq (by intro e;simp at e)]
     ·have hD:(if (1<t.length+1+1+1∧True)∧(2<t.length+1+1+1∧True)∧2048≤v∧(v<55296∨57344≤v) then (v,3) else ((65533,1):Nat×Nat))=(65533,1):=Gq (fun e=>c ⟨e.2.2.1,e.2.2.2⟩);rw[hD,Gx (by omega),Gx rfl]
    ·simp[d1,d2]
   ·simp[d1]
 by_cases c4:240≤b0.toNat∧b0.toNat<245
 ·rw[Yda c4,show cls b0.toNat=(4,65536,(b0.toNat:Int)-240) from by rw[cls,Gq (by omega),Gq (by omega),Gx (by omega)]]
  match t with
  |[]=>simp
  |[b1]=>simp
  |[b1,b2]=>simp
  |b1::b2::b3::t=>
   have l1:=b1.toNat_lt;have l2:=b2.toNat_lt;have l3:=b3.toNat_lt;simp only[Gan,List.getD_cons_succ,List.length_cons,List.take_succ_cons,List.take_zero,YU,YbW];by_cases d1:b1.toNat / 64=2
   ·by_cases d2:b2.toNat / 64=2
    ·by_cases d3:b3.toNat / 64=2
     ·have hv:64*(64*(64*((b0.toNat:Int)-240)+b1.toNat-128)+b2.toNat-128)+b3.toNat-128=((b0.toNat % 8*262144+b1.toNat % 64*4096+b2.toNat % 64*64+b3.toNat % 64:Nat):Int):=by omega
      have hn:¬(4=0∨t.length+1+1+1+1<4):=by omega
      simp only[d1,d2,d3,not_true_eq_false,GI,hv,hn];obtain⟨v,hve⟩:∃v,b0.toNat % 8*262144+b1.toNat % 64*4096+b2.toNat % 64*64+b3.toNat % 64=v:=⟨_,rfl⟩;rw[hve];by_cases c:65536≤v∧v≤1114111
      ·have hD:(if (1<t.length+1+1+1+1∧True)∧(2<t.length+1+1+1+1∧True)∧(3<t.length+1+1+1+1∧True)∧65536≤v∧v≤1114111 then (v,4) else ((65533,1):Nat×Nat))=(v,4):=Gx ⟨⟨by omega,Gn⟩,⟨by omega,Gn⟩,⟨by omega,Gn⟩,c.1,c.2⟩;rw[hD,Gq (by omega),Gq (by intro e;simp at e)]
      ·have hD:(if (1<t.length+1+1+1+1∧True)∧(2<t.length+1+1+1+1∧True)∧(3<t.length+1+1+1+1∧True)∧65536≤v∧v≤1114111 then (v,4) else ((65533,1):Nat×Nat))=(65533,1):=Gq (fun e=>c ⟨e.2.2.2.1,e.2.2.2.2⟩);rw[hD,Gx (by omega),Gx rfl]
     ·simp[d1,d2,d3]
    ·simp[d1,d2]
   ·simp[d1]
 rw[Yey (by omega),show cls b0.toNat=(0,0,(b0.toNat:Int)) from by rw[cls,Gq (by omega),Gq (by omega),Gq (by omega)]];simp
theorem Yby {l:List UInt8} (h:l≠[]):dN l=(65533,1)∨(∃b0 t,l=b0::t∧b0.toNat<128∧dN l=(b0.toNat,1))∨
  (∃b0 b1 t,l=b0::b1::t∧(194≤b0.toNat∧b0.toNat<224)∧b1.toNat / 64=2∧dN l=(b0.toNat % 32*64+b1.toNat % 64,2))∨
  (∃b0 b1 b2 t,l=b0::b1::b2::t∧(224≤b0.toNat∧b0.toNat<240)∧b1.toNat / 64=2∧b2.toNat / 64=2∧2048≤b0.toNat % 16*4096+b1.toNat % 64*64+b2.toNat % 64∧dN l=(b0.toNat % 16*4096+b1.toNat % 64*64+b2.toNat % 64,3))∨
  (∃b0 b1 b2 b3 t,l=b0::b1::b2::b3::t∧(240≤b0.toNat∧b0.toNat<245)∧b1.toNat / 64=2∧b2.toNat / 64=2∧b3.toNat / 64=2∧65536≤b0.toNat % 8*262144+b1.toNat % 64*4096+b2.toNat % 64*64+b3.toNat % 64∧dN l=(b0.toNat % 8*262144+b1.toNat % 64*4096+b2.toNat % 64*64+b3.toNat % 64,4)):=by
 obtain⟨b0,t,rfl⟩:=List.exists_cons_of_ne_nil h
 have l0:=b0.toNat_lt
 have e0:(b0::t).getD 0 0=b0:=rfl
 have e1:(b0::t).getD 1 0=t.getD 0 0:=rfl
 have e2:(b0::t).getD 2 0=t.getD 1 0:=rfl
 have e3:(b0::t).getD 3 0=t.getD 2 0:=rfl
 by_cases c1:b0.toNat<128
 ·exact .inr (.inl ⟨b0,t,rfl,c1,by rw[dN,e0,Yez c1]⟩)
 by_cases c2:194≤b0.toNat∧b0.toNat<224
 ·match t with
  |[]=>left;rw[dN,e0,YdK c2];simp
  |b1::t=>
   by_cases d:b1.toNat / 64=2
   ·exact .inr (.inr (.inl ⟨b0,b1,t,rfl,c2,d,by rw[dN,e0,YdK c2,Gx ⟨by simp,by simpa [e1] using d⟩];rfl⟩))
   ·left;rw[dN,e0,YdK c2,Gq (fun e=>d (by simpa [e1] using e.2))]
 by_cases c3:224≤b0.toNat∧b0.toNat<240
 ·match t with
  |[]=>left;rw[dN,e0,YdL c3];simp
  |[b1]=>left;rw[dN,e0,YdL c3];simp
  |b1::b2::t=>
   have g1:(b0::b1::b2::t).getD 1 0=b1:=rfl
   have g2:(b0::b1::b2::t).getD 2 0=b2:=rfl
   rw[dN,e0,g1,g2,YdL c3]
   split
   ·rename_i hc
    exact .inr (.inr (.inr (.inl ⟨b0,b1,b2,t,rfl,c3,hc.1.2,hc.2.1.2,hc.2.2.1,rfl⟩)))
   ·exact .inl rfl
 by_cases c4:240≤b0.toNat∧b0.toNat<245
 ·match t with
  |[]=>left;rw[dN,e0,Yda c4];simp
  |[b1]=>left;rw[dN,e0,Yda c4];simp
  |[b1,b2]=>left;rw[dN,e0,Yda c4];simp
  |b1::b2::b3::t=>
   have g1:(b0::b1::b2::b3::t).getD 1 0=b1:=rfl
   have g2:(b0::b1::b2::b3::t).getD 2 0=b2:=rfl
   have g3:(b0::b1::b2::b3::t).getD 3 0=b3:=rfl
   rw[dN,e0,g1,g2,g3,Yda c4]
   split
   ·rename_i hc
    exact .inr (.inr (.inr (.inr ⟨b0,b1,b2,b3,t,rfl,c4,hc.1.2,hc.2.1.2,hc.2.2.1.2,hc.2.2.2.1,rfl⟩)))
   ·exact .inl rfl
 ·left;rw[dN,e0,Yey (by omega)]
def Yq:List Int→List Int→Int
 |[],[]=>0
 |[],_::_=>-1
 |_::_,[]=>1
 |a::l,b::k=>if a<b then -1 else if b<a then 1 else Yq l k
theorem Ycm:∀(a b:List Int),Yq a b=-1∨Yq a b=0∨Yq a b=1
 |[],[]=>by simp[Yq]
 |[],_::_=>by simp[Yq]
 |_::_,[]=>by simp[Yq]
 |a::l,b::k=>by
  simp only[Yq];split
  ·simp
  ·split
   ·simp
   ·exact Ycm l k
theorem YaP:∀(a b:List Int),Yq b a=- Yq a b
 |[],[]=>by simp[Yq]
 |[],_::_=>by simp[Yq]
 |_::_,[]=>by simp[Yq]
 |a::l,b::k=>by
  simp only[Yq];have:=YaP l k
  repeat' split
  all_goals omega
theorem Ya1 {a b:Int} {l k:List Int} (h:a<b):Yq (a::l) (b::k)=-1:=by simp[Yq,h]
theorem Ybj {a b:Int} {l k:List Int} (h:b<a):Yq (a::l) (b::k)=1:=by
 have:¬a<b:=by omega
 simp[Yq,h,this]
theorem Ybi {a:Int} {l k:List Int}:Yq (a::l) (a::k)=Yq l k:=by simp[Yq]
end Sg
namespace Sg
open _root_.Go (IntKind BinOp UnOp)
variable {Pg:PgT}
@[go_sem] theorem Yfg {b:UInt8} {t:List UInt8} {k:IntKind}:Jdd (.str (b::t)) (.int k 0)=some (.int .u8 b.toNat):=rfl
@[go_sem high] theorem Yff {s:List UInt8} {z:Nat} {k:IntKind} {n:Nat} (h:n≤s.length):slV true z (.str s) (some (.int k (n:Int))) none=some (.str (s.drop n)):=by
 simp[slV,bound,h]
def H191 (Pg:PgT):Prop:=Pg 191=some (.code F191)
theorem K191 (h:H191 Pg) (r n:Int):K' Pg 191 [.int .i32 r,.int .i64 n]=some (.bool (plainR r n)):=by
 refine Qa h rfl ?_;simp only[go_sem];cases c1:decide (33≤r)<;>cases c2:decide (r<127)<;>cases c3:decide (159<r)<;>cases c4:decide (r=65533)<;>cases c5:decide (n=3) <;>
  simp only[go_sem,plainR,c1,c2,c3,c4,c5]
def H190 (Pg:PgT):Prop:=Pg 190=some (.prim none decQ)
theorem K190 (h:H190 Pg) (s:List UInt8):K' Pg 190 [.str s]=some (.tuple [.int .i32 (Jc0 s).1,.int .i64 (Jc0 s).2]):=by
 rw[JiE h];rfl
def H170 (Pg:PgT):Prop:=Pg 170=some (.prim none keyQ)
theorem K170 (h:H170 Pg) (s:List UInt8):K' Pg 170 [.str s]=some (.bool (keyR s)):=by
 rw[JiE h];rfl
def Ych (c:Int):Bool:=decide (32<c)&&(!decide (c=127)&&(decide (c<128)||decide (159<c)))
def H189 (Pg:PgT):Prop:=Pg 189=some (.code F189)
theorem K189 (h:H189 Pg) (c:Int):K' Pg 189 [iz c]=some (.bool (Ych c)):=by
 refine Qa h rfl ?_;simp only[go_sem];cases c1:decide (32<c)<;>cases c2:decide (c=127)<;>cases c3:decide (c<128)<;>cases c4:decide (159<c) <;>
  simp only[go_sem,Ych,c1,c2,c3,c4]
theorem Yds {l:List UInt8} (h:l≠[]):Ych (YaW l).1=plainR (dN l).1 (dN l).2:=by
 rw[YbT h];by_cases c:dN l=(65533,1)
 ·rw[Gx c,c];decide
 ·rw[Gq c];simp only[Ych,plainR];have c65:(dN l).1=65533→(dN l).2=3:=fun e=>by
   rcases Yby h with x|⟨a0,t,rfl,q,x⟩|⟨a0,a1,t,rfl,q,q1,x⟩|⟨a0,a1,a2,t,rfl,q,q1,q2,q3,x⟩|⟨a0,a1,a2,a3,t,rfl,q,q1,q2,q3,q4,x⟩
   ·exact absurd x c
   all_goals (rw[x] at e ⊢;try (simp only at e ⊢;try omega))
  generalize (dN l).1=r at c65 ⊢;generalize (dN l).2=n at c65 ⊢;rw[Bool.eq_iff_iff];simp only[Gi,Gai,GA,GP,G1];omega
@[go_sem] def eLN (x:Int×Int):V:=.tuple [iz x.1,iz x.2]
def H188 (Pg:PgT):Prop:=Pg 188=some (.code F188)
theorem Ybb:∀{l:List UInt8} {a:Int} {b:UInt8},YU a (l++[b])=(YU a l).bind fun v=>if b.toNat<128∨191<b.toNat then none else some (64*v+b.toNat-128)
 |[],a,b=>by simp[YU]
 |c::l,a,b=>by
  simp only[YU,List.cons_append];split
  ·rfl
  ·exact Ybb
theorem Yba:∀{l k:List UInt8} {a:Int},YU a l=none→YU a (l++k)=none
 |[],k,a,h=>by simp[YU] at h
 |c::l,k,a,h=>by
  simp only[YU,List.cons_append] at h ⊢;split
  ·rfl
  ·rename_i hc;rw[Gq hc] at h;exact Yba h
theorem K188 (h:H188 Pg) (s:List UInt8) (hs:s≠[]):K' Pg 188 [.str s]=some (eLN (YaW s)):=by
 refine Qa h rfl ?_;obtain⟨b0,t,rfl⟩:=List.exists_cons_of_ne_nil hs;have l0:=b0.toNat_lt;have w8:IntKind.i64.wrap (b0.toNat:Int)=b0.toNat:=JiV (by omega) (by omega);have w192:IntKind.i64.wrap ((b0.toNat:Int)-192)=b0.toNat-192:=JiV (by omega) (by omega);have w224:IntKind.i64.wrap ((b0.toNat:Int)-224)=b0.toNat-224:=JiV (by omega) (by omega);have w240:IntKind.i64.wrap ((b0.toNat:Int)-240)=b0.toNat-240:=JiV (by omega) (by omega);simp only[go_sem,w8];refine JiY (fun c1=>?_) (fun c1=>?_)
 ·have c1:=Gg c1;have e:YaW (b0::t)=((b0.toNat:Int),(1:Int)):=by simp only[YaW];rw[Gx (by omega)]
  rw[e];simp only[go_sem]
 have c1:=Ge c1;have eS:YaW (b0::t)=if (cls b0.toNat).1=0∨(b0::t).length<(cls b0.toNat).1 then (-1,1) else
   match YU (cls b0.toNat).2.2 (t.take ((cls b0.toNat).1-1)) with
   |none=>(-1,1)
   |some v=>if v<(cls b0.toNat).2.1∨1114111<v∨(55296≤v∧v<57344) then (-1,1) else (v,((cls b0.toNat).1:Int)):=by
  simp only[YaW];rw[Gq (by omega)]<;>rfl
 simp only[go_sem];cases c2:decide (194≤(b0.toNat:Int)) with
 |false=>
  have hcl:cls b0.toNat=(0,0,(b0.toNat:Int)):=by
   have:=Ge c2;rw[cls,Gq (by omega),Gq (by omega),Gq (by omega)]
  have d2:decide (224≤(b0.toNat:Int))=false:=GE (by have:=Ge c2;omega);have d3:decide (240≤(b0.toNat:Int))=false:=GE (by have:=Ge c2;omega);rw[hcl,Gx (.inl rfl)] at eS;rw[eS];simp only[go_sem,d2,d3]
 |true=>
 have c2':=Gg c2;simp only[go_sem];refine JiY (fun c3=>?_) (fun c3=>?_)
 ·have c3:=Gg c3;have hcl:cls b0.toNat=(2,128,(b0.toNat:Int)-192):=Gx (by omega);simp only[go_sem,w192];rw[hcl] at eS;simp only at eS;refine JiY (fun c5=>?_) (fun c5=>?_)
  ·have c5:=Gg c5;rw[Gx (.inr (by simp only[List.length_cons];omega))] at eS;rw[eS];simp only[go_sem]
  have c5:=Ge c5;have c5:2≤t.length+1:=by omega
  rw[Gq (by simp only[List.length_cons];omega)] at eS;simp only[go_sem];unfold l188_0;refine JiX (fun (i:Nat) S=>(1≤i∧i≤2)∧S.ρ 0=.str (b0::t)∧S.ρ 5=iz 2∧S.ρ 6=iz 128∧S.ρ 7=iz i∧∃v,S.ρ 4=iz v∧YU ((b0.toNat:Int)-192) (t.take (i-1))=some v∧0≤v∧v<64 ^ i) (fun i=>2-i) 1 ?_ ?_
  ·simp[go_sem,YU];omega
  ·intro i S ⟨hi,h0,h5,h6,h7,v,h4,hv,v0,v1⟩;have v2:v<16777216:=by
    have:i=1∨i=2∨i=3∨i=4:=by omega
    rcases this with rfl|rfl|rfl|rfl<;>simp at v1<;>omega
   simp only[go_sem,h5,h7];refine JiY (fun h=>?_) (fun h=>?_)
   ·have h:i<2:=by have:=Gg h;omega
    obtain⟨b,hb⟩:∃b,(b0::t)[i]?=some b:=⟨_,List.getElem?_eq_getElem (by simp only[List.length_cons];omega)⟩;have hb':t[i-1]?=some b:=by
     obtain⟨k,rfl⟩:∃k,i=k+1:=⟨i-1,by omega⟩;simpa using hb
    have lb:=b.toNat_lt;have hts:t.take (i+1-1)=t.take (i-1)++[b]:=by
     have:=Yx hb';rwa [show i-1+1=i+1-1 by omega] at this
    have hsn:=Ybb (l:=t.take (i-1)) (a:=((b0.toNat:Int)-192)) (b:=b);rw[hv,Option.bind_some,←hts] at hsn;have wb:IntKind.i64.wrap (b.toNat:Int)=b.toNat:=JiV (by omega) (by omega);have w1:IntKind.i64.wrap (64*v)=64*v:=JiV (by omega) (by omega);have w2:IntKind.i64.wrap (64*v+b.toNat)=64*v+b.toNat:=JiV (by omega) (by omega);have w3:IntKind.i64.wrap (64*v+b.toNat-128)=64*v+b.toNat-128:=JiV (by omega) (by omega);have bad:(b.toNat<128∨191<b.toNat)→YaW (b0::t)=(-1,1):=fun hbad=>by
     rw[Gx hbad] at hsn;have:YU ((b0.toNat:Int)-192) (t.take (2-1))=none:=by
      have e:t.take (2-1)=t.take (i+1-1)++(t.take (2-1)).drop (i+1-1):=by
       have:=G0 (i+1-1) (t.take (2-1));rw[List.take_take,Nat.min_eq_left (by omega)] at this;exact this.symm
      rw[e];exact Yba hsn
     rw[eS,this]
    simp only[go_sem,h0,h7,hb];cases d1:decide ((b.toNat:Int)<128) with
    |true=>
     have:=bad (.inl (by have:=Gg d1;omega));rw[this];simp only[go_sem]
    |false=>
     have d1':=Ge d1;simp only[go_sem,h0,h7,hb];refine JiY (fun d2=>?_) (fun d2=>?_)
     ·have:=bad (.inr (by have:=Gg d2;omega));rw[this];simp only[go_sem]
     ·have d2':=Ge d2;rw[Gq (by omega)] at hsn;simp only[go_sem,h0,h4,h5,h6,h7,hb,wb,w1,w2,w3];refine⟨i+1,by omega,by omega,by rw[Yi h (by omega)],_,rfl,hsn,by omega,?_⟩;rw[Int.pow_succ];omega
   ·have h:i=2:=by have:=Ge h;omega
    subst h;have hv:YU ((b0.toNat:Int)-192) (t.take (2-1))=some v:=hv;rw[hv] at eS;simp only at eS;simp only[go_sem,h4,h6];cases f1:decide (v<128) with
    |true=>
     rw[Gx (.inl (Gg f1))] at eS;rw[eS];simp only[go_sem]
    |false=>
    cases f2:decide (1114111<v) with
    |true=>
     rw[Gx (.inr (.inl (Gg f2)))] at eS;rw[eS];simp only[go_sem,f2,h4]
    |false=>
    have f1':=Ge f1;have f2':=Ge f2;cases f3:decide (55296≤v) with
    |false=>
     rw[Gq (by have:=Ge f3;omega)] at eS;rw[eS];simp only[go_sem,f2,f3,h4,h5]
    |true=>
    cases f4:decide (v<57344) with
    |true=>
     rw[Gx (.inr (.inr ⟨Gg f3,Gg f4⟩))] at eS;rw[eS];simp only[go_sem,f2,f3,f4,h4]
    |false=>
     rw[Gq (by have:=Ge f4;omega)] at eS;rw[eS];simp only[go_sem,f2,f3,f4,h4,h5]
 have c3:=Ge c3;have d2:decide (224≤(b0.toNat:Int))=true:=GT (by omega);simp only[go_sem,d2];refine JiY (fun c4=>?_) (fun c4=>?_)
 ·have c4:=Gg c4;have hcl:cls b0.toNat=(3,2048,(b0.toNat:Int)-224):=by rw[cls,Gq (by omega),Gx (by omega)]
  simp only[go_sem,w224];rw[hcl] at eS;simp only at eS;refine JiY (fun c5=>?_) (fun c5=>?_)
  ·have c5:=Gg c5;rw[Gx (.inr (by simp only[List.length_cons];omega))] at eS;rw[eS];simp only[go_sem]
  have c5:=Ge c5;have c5:3≤t.length+1:=by omega
  rw[Gq (by simp only[List.length_cons];omega)] at eS;simp only[go_sem];unfold l188_0;refine JiX (fun (i:Nat) S=>(1≤i∧i≤3)∧S.ρ 0=.str (b0::t)∧S.ρ 5=iz 3∧S.ρ 6=iz 2048∧S.ρ 7=iz i∧∃v,S.ρ 4=iz v∧YU ((b0.toNat:Int)-224) (t.take (i-1))=some v∧0≤v∧v<64 ^ i) (fun i=>3-i) 1 ?_ ?_
  ·simp[go_sem,YU];omega
  ·intro i S ⟨hi,h0,h5,h6,h7,v,h4,hv,v0,v1⟩;have v2:v<16777216:=by
    have:i=1∨i=2∨i=3∨i=4:=by omega
    rcases this with rfl|rfl|rfl|rfl<;>simp at v1<;>omega
   simp only[go_sem,h5,h7];refine JiY (fun h=>?_) (fun h=>?_)
   ·have h:i<3:=by have:=Gg h;omega
    obtain⟨b,hb⟩:∃b,(b0::t)[i]?=some b:=⟨_,List.getElem?_eq_getElem (by simp only[List.length_cons];omega)⟩;have hb':t[i-1]?=some b:=by
     obtain⟨k,rfl⟩:∃k,i=k+1:=⟨i-1,by omega⟩;simpa using hb
    have lb:=b.toNat_lt;have hts:t.take (i+1-1)=t.take (i-1)++[b]:=by
     have:=Yx hb';rwa [show i-1+1=i+1-1 by omega] at this
    have hsn:=Ybb (l:=t.take (i-1)) (a:=((b0.toNat:Int)-224)) (b:=b);rw[hv,Option.bind_some,←hts] at hsn;have wb:IntKind.i64.wrap (b.toNat:Int)=b.toNat:=JiV (by omega) (by omega);have w1:IntKind.i64.wrap (64*v)=64*v:=JiV (by omega) (by omega);have w2:IntKind.i64.wrap (64*v+b.toNat)=64*v+b.toNat:=JiV (by omega) (by omega);have w3:IntKind.i64.wrap (64*v+b.toNat-128)=64*v+b.toNat-128:=JiV (by omega) (by omega);have bad:(b.toNat<128∨191<b.toNat)→YaW (b0::t)=(-1,1):=fun hbad=>by
     rw[Gx hbad] at hsn;have:YU ((b0.toNat:Int)-224) (t.take (3-1))=none:=by
      have e:t.take (3-1)=t.take (i+1-1)++(t.take (3-1)).drop (i+1-1):=by
       have:=G0 (i+1-1) (t.take (3-1));rw[List.take_take,Nat.min_eq_left (by omega)] at this;exact this.symm
      rw[e];exact Yba hsn
     rw[eS,this]
    simp only[go_sem,h0,h7,hb];cases d1:decide ((b.toNat:Int)<128) with
    |true=>
     have:=bad (.inl (by have:=Gg d1;omega));rw[this];simp only[go_sem]
    |false=>
     have d1':=Ge d1;simp only[go_sem,h0,h7,hb];refine JiY (fun d2=>?_) (fun d2=>?_)
     ·have:=bad (.inr (by have:=Gg d2;omega));rw[this];simp only[go_sem]
     ·have d2':=Ge d2;rw[Gq (by omega)] at hsn;simp only[go_sem,h0,h4,h5,h6,h7,hb,wb,w1,w2,w3];refine⟨i+1,by omega,by omega,by rw[Yi h (by omega)],_,rfl,hsn,by omega,?_⟩;rw[Int.pow_succ];omega
   ·have h:i=3:=by have:=Ge h;omega
    subst h;have hv:YU ((b0.toNat:Int)-224) (t.take (3-1))=some v:=hv;rw[hv] at eS;simp only at eS;simp only[go_sem,h4,h6];cases f1:decide (v<2048) with
    |true=>
     rw[Gx (.inl (Gg f1))] at eS;rw[eS];simp only[go_sem]
    |false=>
    cases f2:decide (1114111<v) with
    |true=>
     rw[Gx (.inr (.inl (Gg f2)))] at eS;rw[eS];simp only[go_sem,f2,h4]
    |false=>
    have f1':=Ge f1;have f2':=Ge f2;cases f3:decide (55296≤v) with
    |false=>
     rw[Gq (by have:=Ge f3;omega)] at eS;rw[eS];simp only[go_sem,f2,f3,h4,h5]
    |true=>
    cases f4:decide (v<57344) with
    |true=>
     rw[Gx (.inr (.inr ⟨Gg f3,Gg f4⟩))] at eS;rw[eS];simp only[go_sem,f2,f3,f4,h4]
    |false=>
     rw[Gq (by have:=Ge f4;omega)] at eS;rw[eS];simp only[go_sem,f2,f3,f4,h4,h5]
 have c4:=Ge c4;have d3:decide (240≤(b0.toNat:Int))=true:=GT (by omega);simp only[go_sem,d3];refine JiY (fun c6=>?_) (fun c6=>?_)
 ·have c6:=Gg c6;have hcl:cls b0.toNat=(4,65536,(b0.toNat:Int)-240):=by rw[cls,Gq (by omega),Gq (by omega),Gx (by omega)]
  simp only[go_sem,w240];rw[hcl] at eS;simp only at eS;refine JiY (fun c5=>?_) (fun c5=>?_)
  ·have c5:=Gg c5;rw[Gx (.inr (by simp only[List.length_cons];omega))] at eS;rw[eS];simp only[go_sem]
  have c5:=Ge c5;have c5:4≤t.length+1:=by omega
  rw[Gq (by simp only[List.length_cons];omega)] at eS;simp only[go_sem];unfold l188_0;refine JiX (fun (i:Nat) S=>(1≤i∧i≤4)∧S.ρ 0=.str (b0::t)∧S.ρ 5=iz 4∧S.ρ 6=iz 65536∧S.ρ 7=iz i∧∃v,S.ρ 4=iz v∧YU ((b0.toNat:Int)-240) (t.take (i-1))=some v∧0≤v∧v<64 ^ i) (fun i=>4-i) 1 ?_ ?_
  ·simp[go_sem,YU];omega
  ·intro i S ⟨hi,h0,h5,h6,h7,v,h4,hv,v0,v1⟩;have v2:v<16777216:=by
    have:i=1∨i=2∨i=3∨i=4:=by omega
    rcases this with rfl|rfl|rfl|rfl<;>simp at v1<;>omega
   simp only[go_sem,h5,h7];refine JiY (fun h=>?_) (fun h=>?_)
   ·have h:i<4:=by have:=Gg h;omega
    obtain⟨b,hb⟩:∃b,(b0::t)[i]?=some b:=⟨_,List.getElem?_eq_getElem (by simp only[List.length_cons];omega)⟩;have hb':t[i-1]?=some b:=by
     obtain⟨k,rfl⟩:∃k,i=k+1:=⟨i-1,by omega⟩;simpa using hb
    have lb:=b.toNat_lt;have hts:t.take (i+1-1)=t.take (i-1)++[b]:=by
     have:=Yx hb';rwa [show i-1+1=i+1-1 by omega] at this
    have hsn:=Ybb (l:=t.take (i-1)) (a:=((b0.toNat:Int)-240)) (b:=b);rw[hv,Option.bind_some,←hts] at hsn;have wb:IntKind.i64.wrap (b.toNat:Int)=b.toNat:=JiV (by omega) (by omega);have w1:IntKind.i64.wrap (64*v)=64*v:=JiV (by omega) (by omega);have w2:IntKind.i64.wrap (64*v+b.toNat)=64*v+b.toNat:=JiV (by omega) (by omega);have w3:IntKind.i64.wrap (64*v+b.toNat-128)=64*v+b.toNat-128:=JiV (by omega) (by omega);have bad:(b.toNat<128∨191<b.toNat)→YaW (b0::t)=(-1,1):=fun hbad=>by
     rw[Gx hbad] at hsn;have:YU ((b0.toNat:Int)-240) (t.take (4-1))=none:=by
      have e:t.take (4-1)=t.take (i+1-1)++(t.take (4-1)).drop (i+1-1):=by
       have:=G0 (i+1-1) (t.take (4-1));rw[List.take_take,Nat.min_eq_left (by omega)] at this;exact this.symm
      rw[e];exact Yba hsn
     rw[eS,this]
    simp only[go_sem,h0,h7,hb];cases d1:decide ((b.toNat:Int)<128) with
    |true=>
     have:=bad (.inl (by have:=Gg d1;omega));rw[this];simp only[go_sem]
    |false=>
     have d1':=Ge d1;simp only[go_sem,h0,h7,hb];refine JiY (fun d2=>?_) (fun d2=>?_)
     ·have:=bad (.inr (by have:=Gg d2;omega));rw[this];simp only[go_sem]
     ·have d2':=Ge d2;rw[Gq (by omega)] at hsn;simp only[go_sem,h0,h4,h5,h6,h7,hb,wb,w1,w2,w3];refine⟨i+1,by omega,by omega,by rw[Yi h (by omega)],_,rfl,hsn,by omega,?_⟩;rw[Int.pow_succ];omega
   ·have h:i=4:=by have:=Ge h;omega
    subst h;have hv:YU ((b0.toNat:Int)-240) (t.take (4-1))=some v:=hv;rw[hv] at eS;simp only at eS;simp only[go_sem,h4,h6];cases f1:decide (v<65536) with
    |true=>
     rw[Gx (.inl (Gg f1))] at eS;rw[eS];simp only[go_sem]
    |false=>
    cases f2:decide (1114111<v) with
    |true=>
     rw[Gx (.inr (.inl (Gg f2)))] at eS;rw[eS];simp only[go_sem,f2,h4]
    |false=>
    have f1':=Ge f1;have f2':=Ge f2;cases f3:decide (55296≤v) with
    |false=>
     rw[Gq (by have:=Ge f3;omega)] at eS;rw[eS];simp only[go_sem,f2,f3,h4,h5]
    |true=>
    cases f4:decide (v<57344) with
    |true=>
     rw[Gx (.inr (.inr ⟨Gg f3,Gg f4⟩))] at eS;rw[eS];simp only[go_sem,f2,f3,f4,h4]
    |false=>
     rw[Gq (by have:=Ge f4;omega)] at eS;rw[eS];simp only[go_sem,f2,f3,f4,h4,h5]
 have c6:=Ge c6;have hcl:cls b0.toNat=(0,0,(b0.toNat:Int)):=by rw[cls,Gq (by omega),Gq (by omega),Gq (by omega)]
 rw[hcl,Gx (.inl rfl)] at eS;rw[eS];simp only[go_sem]
end Sg
namespace Sg
open _root_.Go _root_.Go.RowKit _root_.Go.Proofs
def plainFm:List (Nat×Nat):=[(191,236)]
theorem okPlain:okF Tryz.prog (cxU plainFm) (onePg 191 F191) 236 F191=true:=by kernel_rfl
theorem plain_walk (r n:Int) (w:World) (hgn:2≤w.heap.size) (hT:Lib.Utf8Tabs 0 1 w) :
  Calls Tryz.prog 236 #[.int .i32 r,.int .i64 n] w fun e w'=>e=.returned (.bool (plainR r n))∧Below w.heap.size w w':=by
 have hk:K' (onePg 191 F191) 191 [.int .i32 r,.int .i64 n]=some (.bool (plainR r n)):=K191 (by simp[H191,onePg]) r n
 obtain⟨m,hm⟩:=K'_iff.1 hk
 have hc:=one_sound (P:=Tryz.prog) (cx:=cxU plainFm) (id:=191) (F:=F191) (by kernel_rfl) okPlain m 191 _ _ hm
 refine (hc.2 w (fun _=>False) #[.int .i32 r,.int .i64 n] (fun b hb=>hb.elim) hgn hT rfl (fun i hi=>by
  match i,hi with
  |0,_=>exact⟨_,rfl,.int _ _⟩
  |1,_=>exact⟨_,rfl,.int _ _⟩
  |k+2,hi=>exact absurd hi (by simp))).mono fun e w' ⟨v,he,hb,hr⟩=>?_
 have hr:=hr.data (fun b hb=>hb.elim)
 cases hr
 exact⟨he,hb⟩
theorem decCt (l:List (Nat×Nat)) (id:Nat) (h:(cxU l).fm id=235):∀args r,decQ args=some r→Ctr Tryz.prog (cxU l) none id args r:=
 dec_ctr (by rw[h];exact⟨_,Tryz.func235,by kernel_rfl,by kernel_rfl⟩) fun s w hG=>by rw[h];exact dec_walk s w hG
theorem keyCt (l:List (Nat×Nat)) (id:Nat) (h:(cxU l).fm id=218):∀args r,keyQ args=some r→Ctr Tryz.prog (cxU l) none id args r:=
 key_ctr (by rw[h];exact⟨_,Tryz.func218,by kernel_rfl,by kernel_rfl⟩) fun s w hgn hG=>by rw[h];exact key_walk s w hgn hG plain_walk
end Sg
namespace Sg
open _root_.Go (IntKind BinOp UnOp)
variable {Pg:PgT}
def putB (n:Nat):List UInt8:=if h:n<128 then [UInt8.ofNat n] else UInt8.ofNat (n % 128+128)::putB (n / 128)
termination_by n
decreasing_by omega
theorem YaN {n:Nat} (h:n<128):putB n=[UInt8.ofNat n]:=by rw[putB,dif_pos h]
theorem YaM {n:Nat} (h:128≤n):putB n=UInt8.ofNat (n % 128+128)::putB (n / 128):=by rw[putB,dif_neg (by omega)]
def tk:Nat→List UInt8→Option (Nat×List UInt8)
 |_,[]=>none
 |0,_::_=>none
 |k+1,b::s=>if b.toNat<128 then some (b.toNat,s) else (tk k s).bind fun q=>if q.1=0 then none else some (b.toNat-128+128*q.1,q.2)
theorem Yaf {n:Nat} (h:n<256):(UInt8.ofNat n).toNat=n:=by
 simp[UInt8.toNat_ofNat'];omega
theorem putB_pos (n:Nat):1≤(putB n).length:=by
 rw[putB];split<;>simp
theorem YbQ:∀(k n:Nat) (r:List UInt8),(putB n).length≤k→tk k (putB n++r)=some (n,r)
 |0,n,r,h=>by have:=putB_pos n;omega
 |k+1,n,r,h=>by
  by_cases hn:n<128
  ·rw[YaN hn];simp only[List.cons_append,List.nil_append,tk,Yaf (show n<256 by omega),Gx hn]
  ·rw[YaM (by omega)] at h ⊢;simp only[List.length_cons] at h;simp only[List.cons_append,tk,Yaf (show n % 128+128<256 by omega)];rw[Gq (by omega),YbQ k (n / 128) r (by omega)];simp only[Option.bind_some];rw[Gq (by omega)]
   congr 2
   omega
theorem Ybg:∀{k:Nat} {s:List UInt8} {n:Nat} {r:List UInt8},tk k s=some (n,r)→s=putB n++r∧(putB n).length≤k
 |_,[],n,r,h=>by simp[tk] at h
 |0,_::_,n,r,h=>by simp[tk] at h
 |k+1,b::s,n,r,h=>by
  simp only[tk] at h;split at h
  ·rename_i hb;simp only[Ga,Gf] at h;obtain⟨rfl,rfl⟩:=h;rw[YaN hb];refine⟨?_,by simp⟩;simp
  ·rename_i hb;cases hq:tk k s with
   |none=>rw[hq] at h;simp at h
   |some q=>
    rw[hq] at h;simp only[Option.bind_some] at h;split at h
    ·cases h
    rename_i h0;obtain⟨m,r'⟩:=q;simp only[Ga,Gf] at h h0;obtain⟨rfl,rfl⟩:=h;obtain⟨e,hl⟩:=Ybg hq;have hb2:=b.toNat_lt;have e1:(b.toNat-128+128*m) % 128+128=b.toNat:=by omega
    have e2:(b.toNat-128+128*m) / 128=m:=by omega
    rw[YaM (by omega),e1,e2,e];exact⟨by simp,by simp only[List.length_cons];omega⟩
theorem YcJ {k:Nat} {s:List UInt8} {n:Nat} {r:List UInt8}:tk k s=some (n,r)↔s=putB n++r∧(putB n).length≤k:=
 ⟨Ybg,fun⟨e,h⟩=>by rw[e];exact YbQ k n r h⟩
theorem Ya7:∀(k n:Nat),(putB n).length≤k+1↔n<128 ^ (k+1)
 |0,n=>by
  by_cases hn:n<128
  ·rw[YaN hn];simpa using hn
  ·rw[YaM (by omega)];have:=putB_pos (n / 128);simp only[List.length_cons];constructor
   ·intro h;omega
   ·intro h;simp at h;omega
 |k+1,n=>by
  by_cases hn:n<128
  ·rw[YaN hn];simp only[List.length_singleton];refine⟨fun _=>?_,fun _=>by omega⟩;have:128 ^ 1≤128 ^ (k+1+1):=Nat.pow_le_pow_right (by omega) (by omega);omega
  ·rw[YaM (by omega)];simp only[List.length_cons];have:=Ya7 k (n / 128);rw[Nat.add_le_add_iff_right,this,Nat.pow_succ 128 (k+1),Nat.div_lt_iff_lt_mul (by omega)]
theorem YD {n:Nat}:(putB n).length≤9↔n<2 ^ 63:=by
 have e:(128:Nat) ^ (8+1)=2 ^ 63:=by decide
 rw[Ya7 8 n,e]
theorem Yd3 {s:List UInt8} {n:Nat} {r:List UInt8} (h:tk 9 s=some (n,r)):n<2 ^ 63:=YD.1 (Ybg h).2
def Ym (t:List UInt8):List UInt8:=putB t.length++t
def YI (b:Bool):List UInt8:=[if b then 1 else 0]
def tkT (s:List UInt8):Option (List UInt8×List UInt8):=(tk 9 s).bind fun q=>if q.1≤q.2.length then some (q.2.take q.1,q.2.drop q.1) else none
def tkF:List UInt8→Option (Bool×List UInt8)
 |[]=>none
 |b::s=>if b.toNat≤1 then some (decide (b.toNat=1),s) else none
theorem Yc1 {s t r:List UInt8}:tkT s=some (t,r)↔s=Ym t++r∧t.length<2 ^ 63:=by
 unfold tkT Ym;constructor
 ·intro h;cases hq:tk 9 s with
  |none=>rw[hq] at h;cases h
  |some q=>
   obtain⟨n,u⟩:=q;rw[hq] at h;simp only[Option.bind_some] at h;split at h
   ·rename_i hn;simp only[Ga,Gf] at h;obtain⟨rfl,rfl⟩:=h;have hl:(u.take n).length=n:=by simp;omega
    refine⟨?_,by rw[hl];exact Yd3 hq⟩;rw[hl,(Ybg hq).1,Gs,G0]
   ·cases h
 ·rintro⟨rfl,h⟩;rw[Gs,YbQ 9 _ _ (YD.2 h)];simp
theorem YdY {s r:List UInt8} {b:Bool}:tkF s=some (b,r)↔s=YI b++r:=by
 cases s with
 |nil=>simp[tkF,YI]
 |cons x s=>
  simp only[tkF,YI,List.cons_append,List.nil_append,List.cons.injEq];constructor
  ·intro h;split at h
   ·rename_i hx;simp only[Ga,Gf] at h;obtain⟨rfl,rfl⟩:=h;refine⟨?_,rfl⟩;apply UInt8.toNat_inj.1;by_cases h1:x.toNat=1
    ·simp[h1]
    ·have:x.toNat=0:=by omega
     simp[this]
   ·cases h
  ·rintro⟨rfl,rfl⟩;cases b<;>simp
@[go_sem] def Yf (l:List Int):V:=.slice 1 (l.map fun a=>[iz a])
def Yb6:List Int→Int→Nat→Int
 |[],_,_=>-1
 |a::l,n,i=>if n=a then i else Yb6 l n (i+1)
theorem Ycp:∀{l:List Int} {n:Int} {i:Nat},decide (0≤Yb6 l n i)=decide (n∈l)
 |[],n,i=>by simp[Yb6]
 |a::l,n,i=>by
  simp only[Yb6];split
  ·rename_i h;simp[h]
  ·rename_i h;rw[Ycp];simp[h]
def H75 (Pg:PgT):Prop:=Pg 75=some (.code F75)
theorem K75 (h:H75 Pg) (l:List Int) (n:Int) (hl:l.length<2 ^ 60):K' Pg 75 [Yf l,iz n]=some (iz (Yb6 l n 0)):=by
 refine Qa h rfl ?_;simp only[go_sem];unfold l75_0;refine JiX (fun (i:Nat) S=>i≤l.length∧S.ρ 0=Yf l∧S.ρ 1=iz n∧S.ρ 7=iz l.length∧S.ρ 8=iz i∧Yb6 (l.drop i) n i=Yb6 l n 0) (fun i=>l.length-i) 0 ?_ ?_
 ·simp[go_sem]
 ·intro i S ⟨hi,h0,h1,h7,h8,ho⟩;simp only[go_sem,h7,h8];refine JiY (fun h=>?_) (fun h=>?_)
  ·have h:=Yg h;obtain⟨x,hx,hd⟩:=JiF h;rw[hd] at ho;simp only[go_sem,h0,h1,h8,hx];refine JiY (fun hc=>?_) (fun hc=>?_)
   ·have hc:n=x:=Gg hc;simp only[Yb6,hc,GK] at ho;simp only[go_sem,←ho,hc]
   ·have hc:¬n=x:=Ge hc;simp only[Yb6,hc,GI] at ho;simp only[go_sem,h0,h1,h7,h8];exact⟨i+1,by omega,by omega,by rw[Yi h hl],ho⟩
  ·have h:=Yo hi h;subst h;simp only[GN,Yb6] at ho;simp only[go_sem,←ho]
def H65 (Pg:PgT):Prop:=Pg 65=some (.code F65)∧H75 Pg
theorem K65 (h:H65 Pg) (l:List Int) (n:Int) (hl:l.length<2 ^ 60):K' Pg 65 [Yf l,iz n]=some (.bool (decide (n∈l))):=by
 obtain⟨h,h75⟩:=h;refine Qa h rfl ?_;have k75:=K75 h75 l n hl;simp only[Yf] at k75;simp only[go_sem,k75,Ycp]
def Yb5:List Int→(Int→Bool)→Nat→Int
 |[],_,_=>-1
 |a::l,p,i=>if p a then i else Yb5 l p (i+1)
theorem Yco:∀{l:List Int} {p:Int→Bool} {i:Nat},decide (0≤Yb5 l p i)=l.any p
 |[],n,i=>by simp[Yb5]
 |a::l,n,i=>by
  simp only[Yb5];split
  ·rename_i h;simp[h]
  ·rename_i h;rw[Yco];simp[h]
def H76 (Pg:PgT):Prop:=Pg 76=some (.code F76)
theorem K76 (h:H76 Pg) (l:List Int) (g:Nat) (cap:List V) (p:Int→Bool) (hl:l.length<2 ^ 60) (hcap:cap.all V.datC=true) (hg:∀x∈l,K' Pg g (iz x::cap)=some (.bool (p x))) :
  K' Pg 76 [Yf l,.func g cap]=some (iz (Yb5 l p 0)):=by
 refine Qa h rfl ?_
 simp only[go_sem]
 unfold l76_0
 refine JiX (fun (i:Nat) S=>i≤l.length∧S.ρ 0=Yf l∧S.ρ 1=.func g cap∧S.ρ 7=iz l.length∧S.ρ 8=iz i∧Yb5 (l.drop i) p i=Yb5 l p 0) (fun i=>l.length-i) 0 ?_ ?_
 ·simp[go_sem]
 ·intro i S ⟨hi,h0,h1,h7,h8,ho⟩
  simp only[go_sem,h7,h8]
  refine JiY (fun h=>?_) (fun h=>?_)
  ·have h:=Yg h
   obtain⟨x,hx,hd⟩:=JiF h
   rw[hd] at ho
   have hgx:=hg x (List.mem_of_getElem? hx)
   simp only[go_sem,h0,h1,h8,hx,hgx]
   refine JiY (fun hc=>?_) (fun hc=>?_)
   ·simp only[Yb5,hc,GK] at ho
    simp only[go_sem,←ho]
   ·simp only[Yb5,hc,Gt,GI] at ho
    simp only[go_sem,h0,h1,h7,h8]
    exact⟨i+1,by omega,by omega,by rw[Yi h hl],ho⟩
  ·have h:=Yo hi h
   subst h
   simp only[GN,Yb5] at ho
   simp only[go_sem,←ho]
def H67 (Pg:PgT):Prop:=Pg 67=some (.code F67)∧H76 Pg
theorem K67 (h:H67 Pg) (l:List Int) (g:Nat) (cap:List V) (p:Int→Bool) (hl:l.length<2 ^ 60) (hcap:cap.all V.datC=true) (hg:∀x∈l,K' Pg g (iz x::cap)=some (.bool (p x))) :
  K' Pg 67 [Yf l,.func g cap]=some (.bool (l.any p)):=by
 obtain⟨h,h76⟩:=h
 refine Qa h rfl ?_
 have k76:=K76 h76 l g cap p hl hcap hg
 simp only[Yf] at k76
 simp only[go_sem,k76,Yco]
def SetP (l:List Int):Prop:=l.length≤8∧(∀m∈l,1≤m∧m≤255)∧l.Nodup
instance (l:List Int):Decidable (SetP l):=inferInstanceAs (Decidable (_∧_∧_))
def rowB (b:UInt8):List V:=[.int .u8 b.toNat]
theorem YcC (l:List UInt8):bytesR (l.map rowB)=some l:=Jcl l
theorem Yel {n:Nat} (h:n<256):rowB (UInt8.ofNat n)=[.int .u8 n]:=by simp[rowB,Yaf h]
theorem u8w {n:Nat}:IntKind.u8.wrap (n:Int)=((n % 256:Nat):Int):=by simp[IntKind.wrap,IntKind.bits,IntKind.signed]
theorem YeP (n:Nat):IntKind.u8.wrap ((BitVec.ofInt 8 (IntKind.u8.wrap (n:Int)) ||| BitVec.ofInt 8 128).toNat:Int)=((n % 128+128:Nat):Int):=by
 have key:∀x:Fin 256,IntKind.u8.wrap ((BitVec.ofInt 8 ((x.1:Nat):Int) ||| BitVec.ofInt 8 128).toNat:Int)=((x.1 % 128+128:Nat):Int):=by decide
 rw[u8w (n:=n)];have:=key ⟨n % 256,by omega⟩;simp only at this;rw[this];omega
theorem YcD (l:List UInt8) (n:Nat):bytesR (l.map rowB++[[.int .u8 (n:Int)]])=some (l++[UInt8.ofNat n]):=by
 induction l with
 |nil=>simp[bytesR]
 |cons b l ih=>
  show bytesR (rowB b::(l.map rowB++_))=_
  simp only[rowB,bytesR,ih];simp
theorem YeY (n:Nat):((n:Int).fdiv (2 ^ 7))=((n / 128:Nat):Int):=by
 have:((2:Int) ^ 7)=((128:Nat):Int):=rfl;rw[this];exact (Int.ofNat_fdiv n 128).symm
def H456 (Pg:PgT):Prop:=Pg 456=some (.code F456)
theorem K456 (h:H456 Pg) (n:Nat) (hn:n<2 ^ 63):K' Pg 456 [iz n]=some (.tuple [.str (putB n),iz 0]):=by
 refine Qa h rfl ?_;have c0:decide ((n:Int)<0)=false:=GE (by omega);simp only[F456,c456,go_sem,c0];unfold l456_0;refine JiX (fun (m:Nat) S=>∃pre:List UInt8,pre++putB m=putB n∧S.ρ 0=iz m∧S.ρ 4=.own 4 1 pre.length∧S.A 4=some (1,pre.map rowB,.live)) (fun m=>m) n ?_ ?_
 ·exact⟨[],rfl,rfl,rfl,rfl⟩
 ·intro m S ⟨pre,hp,s0,s4,a4⟩;have hlen:pre.length+1≤9:=by
   have h1:=YD.2 hn;have h2:=putB_pos m;rw[←hp,Gc] at h1;omega
  have hlim:pre.length+1≤lim:=by unfold lim;omega
  cases c1:decide ((128:Int)≤m) with
  |true=>
   have h128:128≤m:=by have:=Gg c1;omega
   rw[YaM h128] at hp;have w7:((m:Int).fdiv (2 ^ min (Int.toNat 7) 64))=((m / 128:Nat):Int):=YeY m;have hsh:shV .shr (iz m) (.int .u64 7)=some (iz ((m / 128:Nat):Int)):=by simp only[shV];rw[Gq (by omega)];exact congrArg (fun x=>some (V.int .i64 x)) (YeY m)
   simp only[go_sem,s0,s4,a4,c1,Gj,hlim,hsh];refine⟨m / 128,by omega,pre++[UInt8.ofNat (m % 128+128)],by rw[←hp];simp,rfl,by rw[Gc];rfl,?_⟩;rw[GS,GF,Yel (by omega),←YeP];rfl
  |false=>
   have h128:m<128:=by have:=Ge c1;omega
   rw[YaN h128] at hp;have hw:IntKind.u8.wrap (m:Int)=(m:Int):=by rw[u8w];omega
   simp only[go_sem,s0,s4,a4,c1,hw,Gj,hlim,YcD,hp]
def H484 (Pg:PgT):Prop:=Pg 484=some (.code F484)∧H456 Pg
theorem K484 (h:H484 Pg) (t:List UInt8) (ht:t.length<2 ^ 61):K' Pg 484 [.str t]=some (.str (Ym t)):=by
 obtain⟨h,h456⟩:=h;have k:=K456 h456 t.length (by omega);have hl:(putB t.length).length+t.length≤4611686018427387904:=by have:=YD.2 (show t.length<2 ^ 63 by omega);omega
 refine Qa h rfl ?_;simp only[F484,c484,go_sem,k,hl,Ym]
def H485 (Pg:PgT):Prop:=Pg 485=some (.code F485)
theorem K485 (h:H485 Pg) (b:Bool):K' Pg 485 [.bool b]=some (.str (YI b)):=by
 refine Qa h rfl ?_;cases b<;>simp only[F485,c485,go_sem,YI]<;>rfl
def YaI (n:Nat):List Int:=if h:n<128 then [(n:Int)] else ((n % 128:Nat):Int)::YaI (n / 128)
termination_by n
decreasing_by omega
theorem Yce {n:Nat} (h:n<128):YaI n=[(n:Int)]:=by rw[YaI,dif_pos h]
theorem Ycd {n:Nat} (h:128≤n):YaI n=((n % 128:Nat):Int)::YaI (n / 128):=by rw[YaI,dif_neg (by omega)]
theorem YbX:∀n,(YaI n).length=(putB n).length:=by
 intro n
 induction n using Nat.strongRecOn with
 |_ n ih=>
  by_cases h:n<128
  ·rw[Yce h,YaN h];rfl
  ·rw[Ycd (by omega),YaM (by omega),List.length_cons,List.length_cons,ih _ (by omega)]
theorem Yb7 (n:Nat):YaI n=((n % 128:Nat):Int)::(if n / 128=0 then [] else YaI (n / 128)):=by
 by_cases h:n<128
 ·rw[Yce h,Gx (by omega),Nat.mod_eq_of_lt h]
 ·rw[Ycd (by omega),Gq (by omega)]
theorem YcL (n:Nat):(n:Int).tmod 128=((n % 128:Nat):Int):=rfl
theorem YdM (n:Nat):(n:Int).tdiv 128=((n / 128:Nat):Int):=rfl
def H502 (Pg:PgT):Prop:=Pg 502=some (.code F502)
theorem K502 (h:H502 Pg) (n:Nat) (hn:n<2 ^ 63):K' Pg 502 [iz n]=some (Yf (YaI n)):=by
 refine Qa h rfl ?_;have wd:∀m:Nat,m<2 ^ 63→IntKind.i64.wrap ((m:Int).tdiv 128)=((m / 128:Nat):Int):=fun m hm=>by
  rw[YdM,JiV (by omega) (by omega)]
 have hl9:=YD.2 hn;rw[←YbX] at hl9;simp only[F502,c502,go_sem,wd n hn,YcL];unfold l502_0;refine JiX (fun (m:Nat) S=>m<2 ^ 63∧∃pre:List Int,pre++(if m=0 then [] else YaI m)=YaI n∧S.ρ 0=iz m∧S.ρ 3=.own 6 1 pre.length∧S.A 6=some (1,pre.map (fun a=>[iz a]),.live)) (fun m=>m) (n / 128) ?_ ?_
 ·exact⟨by omega,[((n % 128:Nat):Int)],(Yb7 n).symm,rfl,rfl,rfl⟩
 ·intro m S ⟨hm,pre,hp,s0,s3,a6⟩;cases c1:decide ((0:Int)<m) with
  |true=>
   have h0:0<m:=by have:=Gg c1;omega
   rw[Gq (by omega),Yb7] at hp;have hlim:pre.length+1≤lim:=by
    have:=congrArg List.length hp;rw[Gc,List.length_cons] at this;unfold lim;omega
   simp only[go_sem,s0,s3,a6,c1,YcL,wd m hm,Gj,hlim];refine⟨m / 128,by omega,by omega,pre++[((m % 128:Nat):Int)],by rw[←hp];simp,rfl,by rw[Gc];rfl,by rw[GS];rfl⟩
  |false=>
   have h0:m=0:=by have:=Ge c1;omega
   subst h0;rw[Gx rfl,GC] at hp;simp only[go_sem,s0,s3,a6,hp,Gj]
theorem Ydb:∀(n:Nat) (i:Nat) (d:Int),(YaI n)[i]?=some d→(putB n)[i]?=some (UInt8.ofNat (d.toNat+if i+1<(YaI n).length then 128 else 0))∧0≤d∧d<128:=by
 intro n
 induction n using Nat.strongRecOn with
 |_ n ih=>
  intro i d hd;by_cases h:n<128
  ·rw[Yce h] at hd ⊢;rw[YaN h];cases i with
   |zero=>simp at hd;subst hd;simp;omega
   |succ i=>simp at hd
  ·have:=putB_pos (n / 128);rw[Ycd (by omega)] at hd ⊢;rw[YaM (by omega)];have hl:=YbX (n / 128);cases i with
   |zero=>
    simp at hd;subst hd;simp only[List.getElem?_cons_zero,List.length_cons];rw[Gx (by omega)];exact⟨by congr 2,by omega,by omega⟩
   |succ i=>
    simp only[List.getElem?_cons_succ] at hd ⊢;obtain⟨e1,e2,e3⟩:=ih _ (by omega) i d hd;rw[e1];refine⟨?_,e2,e3⟩;simp only[List.length_cons,Nat.add_lt_add_iff_right]
def H487 (Pg:PgT):Prop:=Pg 487=some (.code F487)∧H502 Pg
theorem K487 (h:H487 Pg) (n:Nat) (hn:n<2 ^ 63):K' Pg 487 [iz n]=some (.tuple [.str (putB n),iz 0]):=by
 obtain⟨h,h502⟩:=h;have k502:=K502 h502 n hn;simp only[go_sem] at k502;refine Qa h rfl ?_;have c0:decide ((n:Int)<0)=false:=GE (by omega);have hl:=YbX n;have hl9:=YD.2 hn;simp only[F487,c487,go_sem,c0,k502];unfold l487_0;refine JiX (fun (i:Nat) S=>i≤(YaI n).length∧S.ρ 4=.slice 1 ((YaI n).map fun a=>[iz a])∧S.ρ 5=.str ((putB n).take i)∧S.ρ 6=iz i) (fun i=>(YaI n).length-i) 0 ?_ ?_
 ·exact⟨GJ _,rfl,rfl,rfl⟩
 ·intro i S ⟨hi,s4,s5,s6⟩;cases c1:decide ((i:Int)<((YaI n).length:Int)) with
  |false=>
   have hi':i=(putB n).length:=by have:=Ge c1;omega
   rw[hi',Gz] at s5;simp only[go_sem,s4,s5,s6,c1,Gj]
  |true=>
   have hlt:=Yg c1;obtain⟨d,hd,-⟩:=JiF hlt;obtain⟨p1,p2,p3⟩:=Ydb n i d hd;have htk:(putB n).take (i+1)=(putB n).take i++[UInt8.ofNat (d.toNat+if i+1<(YaI n).length then 128 else 0)]:=by rw[GY,p1];rfl
   have hinc:=inc64q (i:=i) (by omega)
   have hdec:IntKind.i64.wrap (((YaI n).length:Int)-1)=((YaI n).length:Int)-1:=JiV (by omega) (by omega);have hstr:((putB n).take i).length+1≤4611686018427387904:=by rw[GL];omega
   cases c2:decide ((i:Int)<((YaI n).length:Int)-1) with
   |true=>
    have h2:i+1<(YaI n).length:=by have:=Gg c2;omega
    rw[Gx h2] at htk;have hw:IntKind.i64.wrap (d+128)=d+128:=JiV (by omega) (by omega);have hb:IntKind.u8.wrap (d+128)=d+128:=by simp[IntKind.wrap,IntKind.bits,IntKind.signed];omega
    have hto:(d+128).toNat=d.toNat+128:=by omega
    simp only[go_sem,s4,s5,s6,c1,c2,hd,hinc,hdec,hw,hb,hto,hstr,Gj,List.length_cons,List.length_nil];exact⟨i+1,by omega,by omega,by rw[htk],rfl⟩
   |false=>
    have h2:¬i+1<(YaI n).length:=by have:=Ge c2;omega
    rw[Gq h2,Nat.add_zero] at htk;have hb:IntKind.u8.wrap d=d:=by simp[IntKind.wrap,IntKind.bits,IntKind.signed];omega
    simp only[go_sem,s4,s5,s6,c1,c2,hd,hinc,hdec,hb,hstr,Gj,List.length_cons,List.length_nil];exact⟨i+1,by omega,by omega,by rw[htk];rfl,rfl⟩
def eTk (e:Int):Option (Nat×List UInt8)→V
 |some (n,r)=>.tuple [iz n,.str r,iz 0]
 |none=>.tuple [iz 0,.str [],iz e]
def YbB (e:Int):Option (List UInt8×List UInt8)→V
 |some (n,r)=>.tuple [.str n,.str r,iz 0]
 |none=>.tuple [.str [],.str [],iz e]
def YbA (e:Int):Option (Bool×List UInt8)→V
 |some (n,r)=>.tuple [.bool n,.str r,iz 0]
 |none=>.tuple [.bool false,.str [],iz e]
theorem and127 (b:UInt8):IntKind.u8.wrap ((BitVec.ofInt 8 (b.toNat:Int) &&& BitVec.ofInt 8 127).toNat:Int)=((b.toNat % 128:Nat):Int):=by
 have key:∀x:Fin 256,IntKind.u8.wrap ((BitVec.ofInt 8 ((x.1:Nat):Int) &&& BitVec.ofInt 8 127).toNat:Int)=((x.1 % 128:Nat):Int):=by decide
 exact key ⟨b.toNat,b.toNat_lt⟩
theorem YdJ (b:UInt8):Ja3 .and .u8 (b.toNat:Int) 127=some (.int .u8 ((b.toNat % 128:Nat):Int)):=congrArg (fun x=>some (V.int .u8 x)) (and127 b)
theorem or_sh {acc d i:Nat} (ha:acc<128 ^ i) (hd:d<128) (hi:i≤8) :
  IntKind.i64.wrap ((BitVec.ofInt 64 (acc:Int) ||| BitVec.ofInt 64 (IntKind.i64.wrap ((d:Int)*2 ^ min (7*i) 64))).toNat:Int)=((acc+128 ^ i*d:Nat):Int):=by
 have hp:(128:Nat) ^ i=2 ^ (7*i):=by rw[Nat.pow_mul]
 have hle:(2:Nat) ^ (7*i)≤2 ^ 56:=Nat.pow_le_pow_right (by omega) (by omega)
 have hmul:2 ^ (7*i)*d<2 ^ 63:=by
  have:2 ^ (7*i)*d≤2 ^ 56*127:=Nat.mul_le_mul hle (by omega);omega
 rw[hp] at ha ⊢
 have e1:((d:Int)*2 ^ min (7*i) 64)=((2 ^ (7*i)*d:Nat):Int):=by
  rw[Nat.min_eq_left (by omega)];simp[Int.mul_comm]
 have e3:IntKind.i64.wrap ((2 ^ (7*i)*d:Nat):Int)=((2 ^ (7*i)*d:Nat):Int):=JiV (by omega) (by omega)
 rw[e1,e3]
 have e2:∀m:Nat,m<2 ^ 63→BitVec.ofInt 64 (m:Int)=BitVec.ofNat 64 m:=fun m hm=>by simp
 rw[e2 _ (by omega),e2 _ hmul,BitVec.toNat_or,BitVec.toNat_ofNat,BitVec.toNat_ofNat,Nat.mod_eq_of_lt (by omega),Nat.mod_eq_of_lt (by omega),Nat.or_comm,←Nat.two_pow_add_eq_or_of_lt ha,Nat.add_comm]
 have hsum:acc+2 ^ (7*i)*d<2 ^ 63:=by
  have h1:2 ^ (7*i)*d+2 ^ (7*i)≤2 ^ (7*i)*128:=by
   have:=Nat.mul_le_mul (Gp (2 ^ (7*i))) (show d+1≤128 by omega);rw[Nat.mul_add] at this;omega
  omega
 rw[JiV (by omega) (by omega)]
theorem Yei {acc d i:Nat} (ha:acc<128 ^ i) (hd:d<128) (hi:i≤8):Ja3 .or .i64 (acc:Int) (IntKind.i64.wrap ((d:Int)*2 ^ min (7*i) 64))=some (iz ((acc+128 ^ i*d:Nat):Int)):=
 congrArg (fun x=>some (V.int .i64 x)) (or_sh ha hd hi)
def H505 (Pg:PgT):Prop:=Pg 505=some (.code F505)
theorem K505 (h:H505 Pg) (s:List UInt8) (hs:s.length<2 ^ 62):∃e:Int,e≠0∧K' Pg 505 [.str s]=some (iz e):=by
 have key:K' Pg 505 [.str s]=some (iz (if s.any (fun b=>decide (b.toNat<128)) then 3 else 2)):=by
  refine Qa h rfl ?_;simp only[F505,c505,go_sem];unfold l505_0;refine JiX (fun (i:Nat) S=>i≤s.length∧S.ρ 0=.str s∧S.ρ 5=iz s.length∧S.ρ 6=iz i∧∀b∈s.take i,¬b.toNat<128) (fun i=>s.length-i) 0 ?_ ?_
  ·exact⟨GJ _,rfl,rfl,rfl,fun b hb=>by simp at hb⟩
  ·intro i S ⟨hi,s0,s5,s6,hpre⟩;cases c1:decide ((i:Int)<(s.length:Int)) with
   |false=>
    have:i=s.length:=by have:=Ge c1;omega
    subst this;rw[Gz] at hpre;have:s.any (fun b=>decide (b.toNat<128))=false:=by
     rw[List.any_eq_false];intro b hb;simpa using hpre b hb
    simp only[go_sem,s5,s6,c1,this]
   |true=>
    have hlt:=Yg c1;obtain⟨b,hb,-⟩:=JiF hlt;have hinc:=inc64q (i:=i) (by omega)
    cases c2:decide ((b.toNat:Int)<128) with
    |true=>
     have:s.any (fun b=>decide (b.toNat<128))=true:=List.any_eq_true.2 ⟨b,List.mem_of_getElem? hb,GT (by have:=Gg c2;omega)⟩;simp only[go_sem,s0,s5,s6,c1,hb,c2,this]
    |false=>
     simp only[go_sem,s0,s5,s6,c1,hb,c2,hinc];refine⟨i+1,by omega,by omega,rfl,fun x hx=>?_⟩;rw[GY,hb] at hx;rcases GV.1 hx with hx|hx
     ·exact hpre x hx
     ·have:x=b:=by simpa using hx
      subst this;have:=Ge c2;omega
 refine⟨_,?_,key⟩;split<;>decide
def cnt (i acc:Nat) (o:Option (Nat×List UInt8)):Option (Nat×List UInt8):=o.bind fun q=>if 0<i∧q.1=0 then none else some (acc+128 ^ i*q.1,q.2)
theorem Yev (o:Option (Nat×List UInt8)):cnt 0 0 o=o:=by cases o<;>simp[cnt]
theorem Yc9 {i acc k:Nat} {b:UInt8} {s:List UInt8} (hb:128≤b.toNat):cnt i acc (tk (k+1) (b::s))=cnt (i+1) (acc+128 ^ i*(b.toNat % 128)) (tk k s):=by
 have hb2:=b.toNat_lt;have hm:b.toNat % 128=b.toNat-128:=by omega
 simp only[tk,Gq (show ¬b.toNat<128 by omega),hm];cases tk k s with
 |none=>rfl
 |some q=>
  obtain⟨n,r⟩:=q;simp only[Option.bind_some,cnt];by_cases h0:n=0
  ·simp[h0]
  ·rw[Gq h0];simp only[Option.bind_some];rw[Gq (by omega),Gq (by omega)]
   congr 2
   rw[Nat.pow_succ,Nat.mul_add,Nat.mul_assoc];omega
def tkE (el:Int):Nat→List UInt8→Int
 |_,[]=>2
 |i,b::s=>if 8<i then (if 128≤b.toNat∨0<b.toNat % 128 then el else 3) else if 128≤b.toNat then tkE el (i+1) s else 3
theorem YdF {el:Int} (hel:el≠0):∀{i:Nat} {s:List UInt8},tkE el i s≠0
 |_,[]=>by simp[tkE]
 |i,b::s=>by
  simp only[tkE];split
  ·split
   ·exact hel
   ·decide
  ·split
   ·exact YdF hel
   ·decide
def H491 (Pg:PgT):Prop:=Pg 491=some (.code F491)∧H505 Pg
theorem K491 (h:H491 Pg) (s:List UInt8) (hs:s.length<2 ^ 62):∃e:Int,e≠0∧K' Pg 491 [.str s]=some (eTk e (tk 9 s)):=by
 obtain⟨h,h505⟩:=h;obtain⟨el,hel,k505⟩:=K505 h505 s hs;refine⟨tkE el 0 s,YdF hel,?_⟩;refine Qa h rfl ?_;simp only[F491,c491,go_sem];have and127:=YdJ;simp only[go_sem,Ga,V.int.injEq,true_and] at and127;unfold l491_0;refine JiX (fun (i:Nat) S=>i≤s.length∧i≤9∧S.ρ 0=.str s∧S.ρ 9=iz s.length∧S.ρ 10=iz i∧∃acc:Nat,acc<128 ^ i∧S.ρ 5=iz acc∧tk 9 s=cnt i acc (tk (9-i) (s.drop i))∧tkE el 0 s=tkE el i (s.drop i)) (fun i=>s.length-i) 0 ?_ ?_
 ·exact⟨GJ _,GJ _,rfl,rfl,rfl,0,by decide,rfl,(Yev _).symm,rfl⟩
 ·intro i S ⟨hi,hi9,s0,s9,s10,acc,hacc,s5,htk,hte⟩;cases c1:decide ((i:Int)<(s.length:Int)) with
  |false=>
   have:i=s.length:=by have:=Ge c1;omega
   subst this;rw[GN] at htk hte;have hval:eTk (tkE el 0 s) (tk 9 s)=.tuple [iz 0,.str [],iz 2]:=by rw[htk,hte];cases 9-s.length<;>rfl
   simp only[go_sem,s9,s10,c1,hval]
  |true=>
   have hlt:=Yg c1;obtain⟨b,hb,hdr⟩:=JiF hlt;rw[hdr] at htk hte;have hinc:=inc64q (i:=i) (by omega)
   have hmul:IntKind.i64.wrap (7*(i:Int))=((7*i:Nat):Int):=by rw[JiV (by omega) (by omega)];omega
   have hw7:IntKind.i64.wrap ((b.toNat % 128:Nat):Int)=((b.toNat % 128:Nat):Int):=JiV (by omega) (by omega);have hb2:=b.toNat_lt;cases c2:decide ((8:Int)<i) with
   |true=>
    have h9:i=9:=by have:=Gg c2;omega
    have e1:tk 9 s=none:=by rw[htk,show 9-i=0 by omega];rfl
    have e2:tkE el 0 s=if 128≤b.toNat∨0<b.toNat % 128 then el else 3:=by rw[hte];simp only[tkE];rw[Gx (by omega)]
    cases c3:decide ((128:Int)≤(b.toNat:Int)) with
    |true=>
     have hval:eTk (tkE el 0 s) (tk 9 s)=.tuple [iz 0,.str [],iz el]:=by rw[e1,e2,Gx (.inl (by have:=Gg c3;omega))];rfl
     simp only[go_sem,s0,s9,s10,c1,c2,c3,hb,and127,hw7,k505,hval]
    |false=>
    cases c4:decide ((0:Int)<((b.toNat % 128:Nat):Int)) with
    |true=>
     have hval:eTk (tkE el 0 s) (tk 9 s)=.tuple [iz 0,.str [],iz el]:=by rw[e1,e2,Gx (.inr (by have:=Gg c4;omega))];rfl
     simp only[go_sem,s0,s9,s10,c1,c2,c3,c4,hb,and127,hw7,k505,hval]
    |false=>
     have c5:decide (((b.toNat % 128:Nat):Int)=0)=true:=GT (by have:=Ge c4;omega);have c6:decide ((0:Int)<(i:Int))=true:=GT (by omega);have hval:eTk (tkE el 0 s) (tk 9 s)=.tuple [iz 0,.str [],iz 3]:=by rw[e1,e2,Gq (by have:=Ge c4;have:=Ge c3;omega)];rfl
     simp only[go_sem,s0,s9,s10,c1,c2,c3,c4,c5,c6,hb,and127,hw7,hval]
   |false=>
    have h8:i≤8:=by have:=Ge c2;omega
    have hor:=Yei (acc:=acc) (d:=b.toNat % 128) (i:=i) hacc (by omega) h8;simp only[go_sem,Ga,V.int.injEq,true_and] at hor;have hsh:shV .shl (iz ((b.toNat % 128:Nat):Int)) (iz ((7*i:Nat):Int))=some (iz (IntKind.i64.wrap (((b.toNat % 128:Nat):Int)*2 ^ min (7*i) 64))):=by
     simp only[shV];rw[Gq (by omega)];rfl
    have hnext:acc+128 ^ i*(b.toNat % 128)<128 ^ (i+1):=by
     have:=Nat.mul_le_mul (Gp (128 ^ i)) (show b.toNat % 128+1≤128 by omega);rw[Nat.mul_add] at this;rw[Nat.pow_succ];omega
    cases c3:decide ((128:Int)≤(b.toNat:Int)) with
    |true=>
     have h128:128≤b.toNat:=by have:=Gg c3;omega
     rw[show 9-i=(8-i)+1 by omega,Yc9 h128,show 8-i=9-(i+1) by omega] at htk;simp only[tkE] at hte;rw[Gq (by omega),Gx h128] at hte;simp only[go_sem,s0,s5,s9,s10,c1,c2,c3,hb,and127,hw7,hmul,hsh,hor,hinc];exact⟨i+1,by omega,by omega,by omega,rfl,_,hnext,rfl,htk,hte⟩
    |false=>
     have h128:b.toNat<128:=by have:=Ge c3;omega
     have hmd:b.toNat % 128=b.toNat:=by omega
     have hle1:i+1≤s.length:=hlt;have e0:tk (9-i) (b::s.drop (i+1))=some (b.toNat,s.drop (i+1)):=by
      rw[show 9-i=(8-i)+1 by omega];simp only[tk];rw[Gx h128]
     rw[e0] at htk;simp only[tkE] at hte;rw[Gq (by omega),Gq (by omega)] at hte;cases c4:decide (((b.toNat % 128:Nat):Int)=0) with
     |true=>
      have h0:b.toNat=0:=by have:=Gg c4;omega
      cases c5:decide ((0:Int)<(i:Int)) with
      |true=>
       have hval:eTk (tkE el 0 s) (tk 9 s)=.tuple [iz 0,.str [],iz 3]:=by
        rw[htk,hte];simp only[cnt,Option.bind_some];rw[Gx ⟨by have:=Gg c5;omega,h0⟩];rfl
       simp only[go_sem,s0,s9,s10,c1,c2,c3,c4,c5,hb,and127,hw7,hval]
      |false=>
       have hval:eTk (tkE el 0 s) (tk 9 s)=.tuple [iz ((acc+128 ^ i*(b.toNat % 128):Nat):Int),.str (s.drop (i+1)),iz 0]:=by
        rw[htk];simp only[cnt,Option.bind_some];rw[Gq (by have:=Ge c5;omega),hmd];rfl
       simp only[go_sem,s0,s5,s9,s10,c1,c2,c3,c4,c5,hb,and127,hw7,hmul,hsh,hor,hinc,hle1,Gz,hval]
     |false=>
      have hval:eTk (tkE el 0 s) (tk 9 s)=.tuple [iz ((acc+128 ^ i*(b.toNat % 128):Nat):Int),.str (s.drop (i+1)),iz 0]:=by
       rw[htk];simp only[cnt,Option.bind_some];rw[Gq (by have:=Ge c4;omega),hmd];rfl
      simp only[go_sem,s0,s5,s9,s10,c1,c2,c3,c4,hb,and127,hw7,hmul,hsh,hor,hinc,hle1,Gz,hval]
def H506 (Pg:PgT):Prop:=Pg 506=some (.code F506)∧H491 Pg
theorem K506 (h:H506 Pg) (s:List UInt8) (hs:s.length<2 ^ 62):∃e:Int,e≠0∧K' Pg 506 [.str s]=some (YbB e (tkT s)):=by
 obtain⟨h,h491⟩:=h;obtain⟨e,he,k⟩:=K491 h491 s hs;unfold tkT;cases hq:tk 9 s with
 |none=>
  rw[hq] at k;have hd:decide (e=0)=false:=GE he;refine⟨e,he,Qa h rfl ?_⟩;simp only[eTk] at k;simp only[F506,c506,go_sem,k,hd,Option.bind_none,YbB]
 |some q=>
  obtain⟨n,r⟩:=q;rw[hq] at k;simp only[eTk] at k;simp only[Option.bind_some];have hn:=Yd3 hq;cases c1:decide ((r.length:Int)<n) with
  |true=>
   refine⟨2,by decide,Qa h rfl ?_⟩;have h1:¬n≤r.length:=by have:=Gg c1;omega
   simp only[F506,c506,go_sem,k,c1,Gq h1,YbB]
  |false=>
   refine⟨2,by decide,Qa h rfl ?_⟩;have h1:n≤r.length:=by have:=Ge c1;omega
   simp only[F506,c506,go_sem,k,c1,h1,YbB,Gz]
def H507 (Pg:PgT):Prop:=Pg 507=some (.code F507)
theorem K507 (h:H507 Pg) (s:List UInt8):∃e:Int,e≠0∧K' Pg 507 [.str s]=some (YbA e (tkF s)):=by
 cases s with
 |nil=>
  refine⟨2,by decide,Qa h rfl ?_⟩;simp only[F507,c507,go_sem,tkF,YbA]
 |cons b s=>
  have h0:Jdd (.str (b::s)) (.int .i64 0)=some (.int .u8 b.toNat):=rfl;have hne:decide (b::s=[])=false:=rfl;have e1:decide ((b.toNat:Int)=1)=decide (b.toNat=1):=G7.2 (by omega);have hl1:1≤s.length+1:=by omega
  have htl:List.take (s.length+1) (b::s)=b::s:=by simp
  refine⟨3,by decide,Qa h rfl ?_⟩;cases c1:decide ((1:Int)<b.toNat) with
  |true=>
   have h1:¬b.toNat≤1:=by have:=Gg c1;omega
   simp only[F507,c507,go_sem,c1,h0,tkF,YbA,Gq h1]
  |false=>
   have h1:b.toNat≤1:=by have:=Ge c1;omega
   simp only[F507,c507,go_sem,c1,h0,e1,hl1,htl,tkF,YbA,Gx h1,List.length_cons,List.drop_succ_cons,List.drop_zero]
structure Stamp where
 wall:Int
 tick:Int
 node:Int
 deriving DecidableEq
structure Ver where
 at_:Stamp
 gone:Bool
 val:List UInt8
 deriving DecidableEq
@[go_sem] def Yd (s:Stamp):List V:=[iz s.wall,iz s.tick,iz s.node]
@[go_sem] def YH (v:Ver):List V:=[iz v.at_.wall,iz v.at_.tick,iz v.at_.node,.bool v.gone,.str v.val]
def Yb (c:List Ver):V:=.slice 5 (c.map YH)
def Ybr (a b:Int):Bool:=decide (0≤a)&&decide (a≤b)
def YbV (a b:Int):Int:=if a<b then -1 else if b<a then 1 else 0
def orI:List Int→Int
 |[]=>0
 |a::l=>if a=0 then orI l else a
def Ya (s:Stamp):Bool:=Ybr s.wall 1099511627776&&Ybr s.tick 1048576&&Ybr s.node 255
def Yc (a b:Stamp):Int:=orI [YbV a.wall b.wall,YbV a.tick b.tick,YbV a.node b.node]
def H32 (Pg:PgT):Prop:=Pg 32=some (.code F32)
theorem K32 (h:H32 Pg) (a b:Int):K' Pg 32 [iz a,iz b]=some (.bool (Ybr a b)):=by
 refine Qa h rfl ?_;simp only[go_sem];refine JiW (fun h=>?_) (fun h=>?_)<;>simp only[go_sem,h,Ybr]
def H28 (Pg:PgT):Prop:=Pg 28=some (.code F28)∧H32 Pg
theorem K28 (h:H28 Pg) (a:Stamp):K' Pg 28 [.agg (Yd a)]=some (.bool (Ya a)):=by
 obtain⟨h,h32⟩:=h;refine Qa h rfl ?_;have k:=fun x y=>K32 h32 x y;simp only[go_sem,k]
 repeat' (refine JiW (fun h=>?_) (fun h=>?_)<;>simp only[go_sem,h,k,Ya])
def before (a b:Stamp):Bool:=decide (Yc a b<0)
def H24 (Pg:PgT):Prop:=Pg 24=some (.code F24)
theorem K24 (h:H24 Pg) (a:Stamp):K' Pg 24 [.agg (Yd a)]=some (.bool (Ya a)):=by
 refine Qa h rfl ?_;simp only[go_sem]
 repeat' (refine JiW (fun h=>?_) (fun h=>?_)<;>simp only[go_sem,h])
 all_goals simp_all [Ya,Ybr]
 all_goals (intros;omega)
def stB (s:Stamp):List UInt8:=putB s.wall.toNat++(putB s.tick.toNat++putB s.node.toNat)
def tkS (s:List UInt8):Option (Stamp×List UInt8):=(tk 9 s).bind fun a=>(tk 9 a.2).bind fun b=>(tk 9 b.2).bind fun c=>if Ya ⟨a.1,b.1,c.1⟩ then some (⟨a.1,b.1,c.1⟩,c.2) else none
def Ybk (e:Int):Option (Stamp×List UInt8)→V
 |some (n,r)=>.tuple [.agg (Yd n),.str r,iz 0]
 |none=>.tuple [.agg [iz 0,iz 0,iz 0],.str [],iz e]
theorem stR {s:Stamp}:Ya s=true↔(0≤s.wall∧s.wall≤1099511627776)∧(0≤s.tick∧s.tick≤1048576)∧(0≤s.node∧s.node≤255):=by
 simp only[Ya,Ybr,Gi,GA];constructor
 ·rintro⟨⟨h1,h2⟩,h3⟩;exact⟨h1,h2,h3⟩
 ·rintro⟨h1,h2,h3⟩;exact⟨⟨h1,h2⟩,h3⟩
theorem Yc0 {s r:List UInt8} {t:Stamp}:tkS s=some (t,r)↔s=stB t++r∧Ya t=true:=by
 unfold tkS stB;constructor
 ·intro h;cases h1:tk 9 s with
  |none=>rw[h1] at h;cases h
  |some a=>
   rw[h1] at h;simp only[Option.bind_some] at h;cases h2:tk 9 a.2 with
   |none=>rw[h2] at h;cases h
   |some b=>
    rw[h2] at h;simp only[Option.bind_some] at h;cases h3:tk 9 b.2 with
    |none=>rw[h3] at h;cases h
    |some c=>
     rw[h3] at h;simp only[Option.bind_some] at h;split at h
     ·rename_i hr;simp only[Ga,Gf] at h;obtain⟨rfl,rfl⟩:=h;refine⟨?_,hr⟩;obtain⟨a1,a2⟩:=a;obtain⟨b1,b2⟩:=b;obtain⟨c1,c2⟩:=c;simp only at h2 h3 ⊢;rw[(Ybg h1).1,(Ybg h2).1,(Ybg h3).1];simp
     ·cases h
 ·rintro⟨rfl,h⟩;obtain⟨h1,h2,h3⟩:=stR.1 h;have e1:((t.wall.toNat:Nat):Int)=t.wall:=by omega
  have e2:((t.tick.toNat:Nat):Int)=t.tick:=by omega
  have e3:((t.node.toNat:Nat):Int)=t.node:=by omega
  have ht:(⟨t.wall.toNat,t.tick.toNat,t.node.toNat⟩:Stamp)=t:=by rw[e1,e2,e3]
  rw[Gs,Gs,YbQ 9 _ _ (YD.2 (by omega))];simp only[Option.bind_some];rw[YbQ 9 _ _ (YD.2 (by omega))];simp only[Option.bind_some];rw[YbQ 9 _ _ (YD.2 (by omega))];simp only[Option.bind_some];rw[ht,Gx h]
def Ye (l:List Int):List UInt8:=l.flatMap fun n=>putB n.toNat
theorem Ycg {l:List Int} {n:Int}:Ye (l++[n])=Ye l++putB n.toNat:=by simp[Ye]
theorem Yal:∀{l:List Int},(∀n∈l,n.toNat<2 ^ 63)→(Ye l).length≤9*l.length
 |[],_=>by simp[Ye]
 |a::l,h=>by
  have h1:=YD.2 (h a (by simp));have h2:=Yal (l:=l) fun n hn=>h n (by simp[hn]);simp only[Ye,GB,Gc,List.length_cons] at h2 ⊢;omega
def H483 (Pg:PgT):Prop:=Pg 483=some (.code F483)∧H456 Pg
theorem K483 (h:H483 Pg) (l:List Int) (hl:∀n∈l,0≤n∧n<2 ^ 63) (hl2:l.length≤10000):K' Pg 483 [Yf l]=some (.tuple [.str (Ye l),iz 0]):=by
 obtain⟨h,h456⟩:=h;refine Qa h rfl ?_;simp only[F483,c483,go_sem];unfold l483_0;refine JiX (fun (i:Nat) S=>i≤l.length∧S.ρ 9=Yf l∧S.ρ 10=iz l.length∧S.ρ 11=iz i∧S.ρ 4=.own 4 1 (Ye (l.take i)).length∧S.A 4=some (1,(Ye (l.take i)).map rowB,.live)) (fun i=>l.length-i) 0 ?_ ?_
 ·exact⟨GJ _,rfl,by simp only[go_sem],rfl,rfl,rfl⟩
 ·intro i S ⟨hi,s9,s10,s11,s4,a4⟩;cases c1:decide ((i:Int)<(l.length:Int)) with
  |false=>
   have:i=l.length:=by have:=Ge c1;omega
   subst this;rw[Gz] at s4 a4;simp only[go_sem,s10,s11,s4,a4,c1,YcC,Gj]
  |true=>
   have hlt:=Yg c1;obtain⟨n,hn,-⟩:=JiF hlt;have hinc:=inc64q (i:=i) (by omega)
   obtain⟨n0,n1⟩:=hl n (List.mem_of_getElem? hn);have k:K' Pg 456 [iz n]=some (.tuple [.str (putB n.toNat),iz 0]):=by
    have:=K456 h456 n.toNat (by omega);rw[show ((n.toNat:Nat):Int)=n by omega] at this;exact this
   have htk:l.take (i+1)=l.take i++[n]:=by rw[GY,hn];rfl
   have hb:=Yal (l:=l.take i) fun m hm=>by have:=hl m (Gak hm);omega
   rw[GL] at hb;have hp:=YD.2 (show n.toNat<2 ^ 63 by omega);have hlim:(Ye (l.take i)).length+(putB n.toNat).length≤lim:=by unfold lim;omega
   simp only[go_sem,s9,s10,s11,s4,a4,c1,hn,k,hinc,Gj,hlim];refine⟨i+1,by omega,by omega,rfl,by rw[htk,Ycg,Gc],by rw[htk,Ycg,GS];rfl⟩
def H455 (Pg:PgT):Prop:=Pg 455=some (.code F455)∧H483 Pg∧H28 Pg
theorem K455 (h:H455 Pg) (s:Stamp) (hs:Ya s=true):K' Pg 455 [.agg (Yd s)]=some (.tuple [.str (stB s),iz 0]):=by
 obtain⟨h,h483,h28⟩:=h;have k28:=K28 h28 s;rw[hs] at k28;obtain⟨h1,h2,h3⟩:=stR.1 hs;have k:=K483 h483 [s.wall,s.tick,s.node] (fun n hn=>by simp at hn;rcases hn with rfl|rfl|rfl<;>omega) (by simp);have e:Ye [s.wall,s.tick,s.node]=stB s:=by simp[Ye,stB]
 rw[e] at k;simp only[go_sem,GF,GQ] at k k28;refine Qa h rfl ?_;simp only[F455,c455,go_sem,k28,k]
def H486 (Pg:PgT):Prop:=Pg 486=some (.code F486)∧H487 Pg
theorem K486 (h:H486 Pg) (s:Stamp) (hs:Ya s=true):K' Pg 486 [.agg (Yd s)]=some (.str (stB s)):=by
 obtain⟨h,h487⟩:=h;obtain⟨h1,h2,h3⟩:=stR.1 hs;have kk:∀n:Int,0≤n→n<2 ^ 63→K' Pg 487 [iz n]=some (.tuple [.str (putB n.toNat),iz 0]):=fun n a b=>by
  have:=K487 h487 n.toNat (by omega);rw[show ((n.toNat:Nat):Int)=n by omega] at this;exact this
 have k1:=kk s.wall (by omega) (by omega);have k2:=kk s.tick (by omega) (by omega);have k3:=kk s.node (by omega) (by omega);have l1:=YD.2 (show s.wall.toNat<2 ^ 63 by omega);have l2:=YD.2 (show s.tick.toNat<2 ^ 63 by omega);have l3:=YD.2 (show s.node.toNat<2 ^ 63 by omega);have b1:(putB s.wall.toNat).length+(putB s.tick.toNat).length≤4611686018427387904:=by omega
 have b2:(putB s.wall.toNat).length+(putB s.tick.toNat).length+(putB s.node.toNat).length≤4611686018427387904:=by omega
 refine Qa h rfl ?_;simp only[F486,c486,go_sem,k1,k2,k3,b1,b2,Gc,stB,Gs]
def YdZ (nu:Nat→Nat) (i:Nat):List V:=[iz ((if 0<i then nu 0 else 0:Nat):Int),iz ((if 1<i then nu 1 else 0:Nat):Int),iz ((if 2<i then nu 2 else 0:Nat):Int)]
theorem YdG {S:St} {nu:Nat→Nat} {i:Nat} (hi:i<3):stV S 5 i [iz (nu i)] (some (YdZ nu i,false))=some ⟨S.ρ,upd S.μ 5 (some (YdZ nu (i+1),false)),S.A⟩:=by
 rcases (show i=0∨i=1∨i=2 by omega) with rfl|rfl|rfl<;>rfl
def H490 (Pg:PgT):Prop:=Pg 490=some (.code F490)∧H491 Pg∧H28 Pg
theorem K490g (h:Pg 490=some (.code F490)) (h28:H28 Pg) {rest:Nat→List UInt8} {nu:Nat→Nat} {m:Nat} {e:Int} (hm:m≤3)
  (hk:∀i,i<m→K' Pg 491 [.str (rest i)]=some (.tuple [iz (nu i),.str (rest (i+1)),iz 0])) (he:m<3→e≠0∧K' Pg 491 [.str (rest m)]=some (.tuple [iz 0,.str [],iz e])) :
  K' Pg 490 [.str (rest 0)]=some (Ybk (if m<3 then e else 3) (if m<3 then none else if Ya ⟨nu 0,nu 1,nu 2⟩ then some (⟨nu 0,nu 1,nu 2⟩,rest 3) else none)):=by
 refine Qa h rfl ?_
 have i0:Ja2 1 3 (.lref 5 0) (.int .i64 0)=some (.lref 5 0):=rfl
 have i1:Ja2 1 3 (.lref 5 0) (.int .i64 1)=some (.lref 5 1):=rfl
 have i2:Ja2 1 3 (.lref 5 0) (.int .i64 2)=some (.lref 5 2):=rfl
 simp only[F490,c490,go_sem]
 unfold l490_0
 refine JiX (fun (i:Nat) S=>i≤m∧S.ρ 0=.str (rest i)∧S.ρ 2=.lref 2 0∧S.ρ 5=.lref 5 0∧S.ρ 11=iz i∧S.μ 2=some ([iz 0,iz 0,iz 0],false)∧S.μ 5=some (YdZ nu i,false)∧S.μ 10=none) (fun i=>3-i) 0 ?_ ?_
 ·exact⟨GJ _,rfl,rfl,rfl,rfl,rfl,rfl,rfl⟩
 ·intro i S ⟨hi,s0,s2,s5,s11,m2,m5,m10⟩
  cases c1:decide ((i:Int)<3) with
  |false=>
   have h3:i=3:=by have:=Ge c1;omega
   have hm3:m=3:=by omega
   rw[Gq (by omega),Gq (by omega)]
   rw[h3] at m5 s0
   have k28:=K28 h28 ⟨nu 0,nu 1,nu 2⟩
   have hv:YdZ nu 3=[iz (nu 0),iz (nu 1),iz (nu 2)]:=rfl
   rw[hv] at m5
   cases hst:Ya ⟨nu 0,nu 1,nu 2⟩ with
   |true=>
    rw[hst] at k28
    simp only[go_sem] at k28
    simp only[go_sem,s0,s2,s5,s11,m2,m5,m10,c1,i0,i1,i2,k28,GK,Ybk]
   |false=>
    rw[hst] at k28
    simp only[go_sem] at k28
    simp only[go_sem,s2,s5,s11,m2,m5,m10,c1,i0,i1,i2,k28,Gt,GI,Ybk]
  |true=>
   have hi3:i<3:=by have:=Gg c1;omega
   have hinc:=inc64q (i:=i) (by omega)
   by_cases him:i<m
   ·have k:=hk i him
    have hst:=fun S=>YdG (S:=S) (nu:=nu) hi3
    have hia:Ja2 1 3 (.lref 5 0) (iz (i:Int))=some (.lref 5 i):=by
     rcases (show i=0∨i=1∨i=2 by omega) with rfl|rfl|rfl<;>rfl
    simp only[go_sem,s0,s2,s5,s11,m2,m5,m10,c1,k,hst,hia,hinc]
    exact⟨i+1,by omega,by omega,rfl,rfl,rfl⟩
   ·have hime:i=m:=by omega
    obtain⟨e0,k⟩:=he (by omega)
    rw[←hime] at k
    have hd:decide (e=0)=false:=GE e0
    rw[Gx (by omega),Gx (by omega)]
    simp only[go_sem,s0,s2,s11,m2,c1,k,hd,Ybk]
theorem K490 (h:H490 Pg) (s:List UInt8) (hs:s.length<2 ^ 62):∃e:Int,e≠0∧K' Pg 490 [.str s]=some (Ybk e (tkS s)):=by
 obtain⟨h,h491,h28⟩:=h;obtain⟨e,he,k⟩:=K491 h491 s hs;unfold tkS;cases hq:tk 9 s with
 |none=>
  rw[hq] at k;exact⟨e,he,by
   have:=K490g h h28 (rest:=fun _=>s) (nu:=fun _=>0) (m:=0) (e:=e) (by omega) (fun i hi=>by omega) (fun _=>⟨he,k⟩);exact this⟩
 |some q=>
  obtain⟨n,r⟩:=q;rw[hq] at k;have hr:r.length<2 ^ 62:=by have:=congrArg List.length (Ybg hq).1;simp at this;omega
  obtain⟨e',he',k'⟩:=K491 h491 r hr;simp only[Option.bind_some];cases hq':tk 9 r with
  |none=>
   rw[hq'] at k';exact⟨e',he',by
    have:=K490g h h28 (rest:=fun i=>if i=0 then s else r) (nu:=fun _=>n) (m:=1) (e:=e') (by omega) (fun i hi=>by
     have h0:i=0:=by omega
     subst h0;exact k) (fun _=>⟨he',k'⟩)
    exact this⟩
  |some q'=>
   obtain⟨n',r'⟩:=q';rw[hq'] at k';simp only[Option.bind_some];have hr':r'.length<2 ^ 62:=by have:=congrArg List.length (Ybg hq').1;simp at this;omega
   obtain⟨e'',he'',k''⟩:=K491 h491 r' hr';cases hq'':tk 9 r' with
   |none=>
    rw[hq''] at k'';exact⟨e'',he'',by
     have:=K490g h h28 (rest:=fun i=>if i=0 then s else if i=1 then r else r') (nu:=fun i=>if i=0 then n else n') (m:=2) (e:=e'') (by omega) (fun i hi=>by
      rcases (show i=0∨i=1 by omega) with rfl|rfl
      ·exact k
      ·exact k') (fun _=>⟨he'',k''⟩)
     exact this⟩
   |some q''=>
    obtain⟨n'',r''⟩:=q'';rw[hq''] at k'';exact⟨3,by decide,by
     have:=K490g h h28 (rest:=fun i=>if i=0 then s else if i=1 then r else if i=2 then r' else r'') (nu:=fun i=>if i=0 then n else if i=1 then n' else n'') (m:=3) (e:=3) (by omega) (fun i hi=>by
      rcases (show i=0∨i=1∨i=2 by omega) with rfl|rfl|rfl
      ·exact k
      ·exact k'
      ·exact k'') (fun h=>by omega)
     exact this⟩
structure Rep where
 id:Int
 view:Int
 members:List Int
 n:Int
 base:List UInt8
 text:List UInt8
 acks:List Int
 deriving DecidableEq
structure Word where
 kind:Int
 frm:Int
 to:Int
 view:Int
 n:Int
 members:List Int
 text:List UInt8
 deriving DecidableEq
@[go_sem] def Yu (r:Rep):List V:=[iz r.id,iz r.view,Yf r.members,iz r.n,.str r.base,.str r.text,Yf r.acks]
@[go_sem] def Y8 (r:Word):List V:=[iz r.kind,iz r.frm,iz r.to,iz r.view,iz r.n,Yf r.members,.str r.text]
structure Rep.Ok (r:Rep):Prop where
 m:r.members.length<2 ^ 60
 a:r.acks.length<2 ^ 60
def Yk (r:Rep):Bool:=match r.members with|[]=>false|m::_=>decide (m=r.id)
def Yan (r:Rep):Bool:=r.members.all fun m=>decide (m∈r.acks)
end Sg
