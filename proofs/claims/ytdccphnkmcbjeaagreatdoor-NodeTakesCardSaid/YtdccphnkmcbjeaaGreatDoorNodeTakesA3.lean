/- NodeTakes, at every input: proved over a checked abstract run of the translated code; no condition. A part. -/
import Derived.Test.YtdccphnkmcbjeaaGreatDoorChecked
import Derived.Lib.LaidU8
import Derived.Lib.OthersKept
import Derived.Laws.RangeAny
import Derived.WalkKit
import Derived.BigCall
import Derived.Test.YtdccphnkmcbjeaaGreatDoorG2
set_option linter.unusedSimpArgs false
set_option linter.unusedVariables false
set_option linter.constructorNameAsVariable false
set_option linter.defProp false
set_option maxRecDepth 100000
set_option maxHeartbeats 4000000
namespace Sg
abbrev PgT:=Nat→Option Fn
theorem inc64q {i:Nat} (h:i<9223372036854775807):_root_.Go.IntKind.i64.wrap ((i:Int)+1)=((i+1:Nat):Int):=by rw[JiV (by omega) (by omega)];omega
end Sg
namespace Sg
def look {α:Type}:List (Nat×α)→Nat→Option α
 |[],_=>none
 |(k,a)::l,n=>if k=n then some a else look l n
def plQ:Option Nat→Bool
 |some j=>decide (j<3000)
 |none=>true
def rfQ (F:F) (j:Nat):Bool:=F.own.isNone&&nsC j F.body&&decide (j<1000)
def okTab (P:Go.Program) (cx:Cx) (tab:List (Nat×Fn)):List (Nat×Fn)→Bool
 |[]=>true
 |(k,.code F)::l=>okF P cx (look tab) (cx.fm k) F&&okTab P cx tab l
 |(k,.codeR F j)::l=>okF P cx (look tab) (cx.fm k) F&&rfQ F j&&okTab P cx tab l
 |(_,.prim o _)::l=>plQ o&&okTab P cx tab l
theorem look_mem {α:Type}:∀{l:List (Nat×α)} {n:Nat} {a:α},look l n=some a→(n,a)∈l
 |(k,b)::l,n,a,h=>by
  simp only[look] at h;split at h
  ·rename_i e;subst e;simp only[Ga] at h;subst h;exact Gac
  ·exact Gad _ (look_mem h)
 |[],n,a,h=>by simp[look] at h
def fnQ (P:Go.Program) (cx:Cx) (tab:List (Nat×Fn)) (k:Nat):Fn→Prop
 |.code F=>okF P cx (look tab) (cx.fm k) F=true
 |.codeR F j=>okF P cx (look tab) (cx.fm k) F=true∧rfQ F j=true
 |.prim o _=>plQ o=true
theorem YbN {P:Go.Program} {cx:Cx} {tab:List (Nat×Fn)}:∀{l:List (Nat×Fn)},okTab P cx tab l=true→∀k f,(k,f)∈l→fnQ P cx tab k f
 |(k',g)::l,h,k,f,hm=>by
  have h2:fnQ P cx tab k' g∧okTab P cx tab l=true:=by
   cases g<;>simp only[okTab,Gk] at h
   ·exact h
   ·exact h
   ·exact⟨h.1,h.2⟩
  simp only[GK,Gl] at hm;rcases hm with ⟨rfl,rfl⟩|hm
  ·exact h2.1
  ·exact YbN h2.2 k f hm
 |[],h,k,f,hm=>by simp at hm
theorem tab_sound {P:Go.Program} {cx:Cx} {tab:List (Nat×Fn)} (hm:P.follows .mixedOrders=true) (hok:okTab P cx tab tab=true)
  (hprim:∀f own p,look tab f=some (.prim own p)→∀args r,p args=some r→Ctr P cx own f args r)
  (hins:∀f z p,z<1000→look tab f=some (.prim (some (1000+z)) p)→∃tS el,InsC P (cx.fm f) z tS el) (hdel:∀f z p,look tab f=some (.prim (some (2000+z)) p)→DelC P (cx.fm f) z)
  (n f:Nat) (args:List V) (r:V) (h:Jn (look tab) n f args=some r):Ctr P cx (ownOf (look tab) f) f args r:=
 (J2 hm (fun f F hf=>YbN hok f _ (look_mem hf)) hprim hins hdel (fun f F k hf=>by
  have h1:fnQ P cx tab f (.codeR F k):=YbN hok f _ (look_mem hf);have h2:=h1.2;simp only[rfQ,Gk,Gaf] at h2;exact⟨h1.1,h2.1.1,h2.1.2⟩) (fun f own p hf k hk ho=>by
  have h1:fnQ P cx tab f (.prim own p):=YbN hok f _ (look_mem hf);subst ho;simp only[fnQ,plQ,Gq] at h1;omega) n f args r h).1
end Sg
namespace Sg
open _root_.Go (IntKind BinOp UnOp)
@[go_sem] abbrev z_0 : List V := [.str [],.str [],.int .i64 0,.int .i64 0,.int .i64 0]
@[go_sem] abbrev z_1 : List V := [.str [],.str []]
@[go_sem] abbrev z_2 : List V := [.int .i64 0,.int .i64 0,.int .i64 0,.bool false,.str []]
@[go_sem] abbrev z_3 : List V := [.int .i64 0,.int .i64 0,.int .i64 0,.int .i64 0,.int .i64 0,.int .i64 0,.bool false,.str [],.slice 2 [],.str [],.bool false]
@[go_sem] abbrev z_4 : List V := [.int .i64 0,.int .i64 0,.slice 1 [],.int .i64 0,.str [],.str [],.slice 1 []]
@[go_sem] abbrev z_5 : List V := [.int .i64 0,.int .i64 0,.int .i64 0,.int .i64 0,.int .i64 0,.slice 1 [],.str []]
@[go_sem] abbrev z_6 : List V := [.str [],.slice 5 []]
@[go_sem] abbrev z_7 : List V := [.slice 17 [],.int .i64 0,.int .i64 0,.int .i64 0,.int .i64 0]
@[go_sem] abbrev z_8 : List V := [.int .i64 0,.int .i64 0,.int .i64 0,.int .i64 0,.bool false,.str [],.slice 2 [],.str [],.bool false]
@[go_sem] abbrev z_9 : List V := [.int .i64 0,.int .i64 0,.str [],.str [],.int .i64 0,.slice 2 [],.int .i64 0,.int .i64 0,.int .i64 0,.int .i64 0,.int .i64 0,.int .i64 0,.slice 11 [],.int .i64 0,.int .i64 0,.int .i64 0,.int .i64 0]
@[go_sem] abbrev z_10 : List V := [.int .i64 0,.int .i64 0,.int .i64 0,.int .i64 0,.int .i64 0]
@[go_sem] abbrev z_11 : List V := [.int .i64 0,.slice 1 [],.bool false]
@[go_sem] abbrev z_12 : List V := [.int .i64 0,.int .i64 0,.int .i64 0,.int .i64 0,.int .i64 0,.int .i64 0,.int .i64 0]
@[go_sem] abbrev z_13 : List V := [.slice 5 [],.slice 3 [],.int .i64 0,.slice 5 [],.slice 3 [],.int .i64 0,.int .i64 0,.int .i64 0,.int .i64 0,.int .i64 0,.int .i64 0,.int .i64 0,.int .i64 0,.int .i64 0,.int .i64 0,.int .i64 0,.str [],.slice 1 [],.int .i64 0,.int .i64 0,.int .i64 0,.str [],.str [],.slice 1 [],.int .i64 0,.int .i64 0,.int .i64 0,.slice 1 [],.slice 7 []]
@[go_sem] abbrev z_14 : List V := [.slice 5 [],.nslice 3,.int .i64 0,.slice 5 [],.slice 3 [],.int .i64 0,.int .i64 0,.int .i64 0,.int .i64 0,.int .i64 0,.int .i64 0,.int .i64 0,.int .i64 0,.int .i64 0,.int .i64 0,.int .i64 0,.str [],.slice 1 [],.int .i64 0,.int .i64 0,.int .i64 0,.str [],.str [],.slice 1 [],.int .i64 0,.int .i64 0,.int .i64 0,.slice 1 [],.nslice 7]
@[go_sem] abbrev z_15 : List V := [.bool false,.bool false,.bool false,.bool false]
@[go_sem] abbrev z_16 : List V := [.int .i64 0,.int .i64 0,.int .i64 0,.slice 1 [],.int .i64 0,.str [],.str [],.slice 1 [],.slice 36 []]
@[go_sem] abbrev z_17 : List V := [.int .i64 0,.slice 9 []]
@[go_sem] abbrev z_18 : List V := [.int .i64 0,.nslice 9]
@[go_sem] abbrev z_19 : List V := [.int .i64 0,.int .i64 0,.int .i64 0]
@[go_sem] abbrev z_20 : List V := [.str [],.bool false]
@[go_sem] abbrev z_21 : List V := [.nslice 17,.int .i64 0,.int .i64 0,.int .i64 0,.int .i64 0]
@[go_sem] abbrev z_22 : List V := [.int .i64 0,.int .i64 0,.int .i64 0,.int .i64 0,.int .i64 0,.int .i64 0,.int .i64 0,.int .i64 0,.int .i64 0,.int .i64 0,.int .i64 0,.int .i64 0,.str [],.int .i64 0,.int .i64 0,.int .i64 0,.str [],.str [],.bool false,.str [],.int .i64 0,.int .i64 0,.int .i64 0,.str [],.int .i64 0,.int .i64 0,.int .i64 0,.int .i64 0,.int .i64 0,.bool false,.str [],.slice 2 [],.str [],.bool false,.slice 5 [],.slice 1 []]
@[go_sem] abbrev z_23 : List V := [.str [],.nslice 5]
@[go_sem] abbrev z_24 : List V := [.int .i64 0,.int .i64 0,.str [],.str [],.int .i64 0,.nslice 2,.int .i64 0,.int .i64 0,.int .i64 0,.int .i64 0,.int .i64 0,.int .i64 0,.nslice 11,.int .i64 0,.int .i64 0,.int .i64 0,.int .i64 0]
@[go_sem] abbrev z_25 : List V := [.int .i64 0,.int .i64 0,.int .i64 0,.str [],.str [],.bool false,.str [],.int .i64 0,.int .i64 0,.int .i64 0,.str [],.int .i64 0]
@[go_sem] abbrev z_26 : List V := [.int .i64 0,.str [],.str [],.int .i64 0,.bool false,.bool false,.int .i64 0,.slice 9 [],.slice 5 [],.slice 3 [],.int .i64 0,.slice 5 [],.slice 3 [],.int .i64 0,.int .i64 0,.int .i64 0,.int .i64 0,.int .i64 0,.int .i64 0,.int .i64 0,.int .i64 0,.int .i64 0,.int .i64 0,.int .i64 0,.str [],.slice 1 [],.int .i64 0,.int .i64 0,.int .i64 0,.str [],.str [],.slice 1 [],.int .i64 0,.int .i64 0,.int .i64 0,.slice 1 [],.slice 7 [],.bool false]
@[go_sem] abbrev z_27 : List V := [.nslice 5,.nslice 3,.int .i64 0,.nslice 5,.nslice 3,.int .i64 0,.int .i64 0,.int .i64 0,.int .i64 0,.int .i64 0,.int .i64 0,.int .i64 0,.int .i64 0,.int .i64 0,.int .i64 0,.int .i64 0,.str [],.slice 1 [],.int .i64 0,.int .i64 0,.int .i64 0,.str [],.str [],.slice 1 [],.int .i64 0,.int .i64 0,.int .i64 0,.slice 1 [],.nslice 7]
@[go_sem] abbrev z_28 : List V := [.int .i64 0,.int .i64 0,.int .i64 0,.int .i64 0,.int .i64 0,.int .i64 0,.int .i64 0,.int .i64 0,.str [],.slice 1 [],.int .i64 0,.int .i64 0,.int .i64 0,.str [],.str [],.slice 1 [],.int .i64 0,.int .i64 0,.int .i64 0,.slice 1 []]
@[go_sem] abbrev z_29 : List V := [.int .i64 0,.int .i64 0,.int .i64 0,.slice 1 [],.int .i64 0,.str [],.str [],.slice 1 [],.nslice 36]
@[go_sem] abbrev z_30 : List V := [.str [],.str [],.int .i64 0,.bool false,.bool false]
@[go_sem] abbrev z_31 : List V := [.int .i64 0,.int .i64 0,.int .i64 0,.int .i64 0,.int .i64 0,.int .i64 0,.int .i64 0,.int .i64 0,.str [],.nslice 1,.int .i64 0,.int .i64 0,.int .i64 0,.str [],.str [],.slice 1 [],.int .i64 0,.int .i64 0,.int .i64 0,.slice 1 []]
@[go_sem] abbrev z_32 : List V := [.int .i64 0,.int .i64 0,.int .i64 0,.int .i64 0,.int .i64 0,.int .i64 0,.int .i64 0,.int .i64 0,.int .i64 0,.int .i64 0,.int .i64 0,.int .i64 0,.str [],.int .i64 0,.int .i64 0,.int .i64 0,.str [],.str [],.bool false,.str [],.int .i64 0,.int .i64 0,.int .i64 0,.str [],.int .i64 0,.int .i64 0,.int .i64 0,.int .i64 0,.int .i64 0,.bool false,.str [],.nslice 2,.str [],.bool false,.nslice 5,.nslice 1]
@[go_sem] abbrev z_33 : List V := [.int .i64 0,.int .i64 0,.int .i64 0,.int .i64 0,.int .i64 0,.int .i64 0,.int .i64 0,.int .i64 0,.int .i64 0,.int .i64 0,.int .i64 0,.int .i64 0,.str [],.int .i64 0,.int .i64 0,.int .i64 0,.str [],.str [],.bool false,.str [],.int .i64 0,.int .i64 0,.int .i64 0,.str [],.int .i64 0,.int .i64 0,.int .i64 0,.int .i64 0,.int .i64 0,.bool false,.str [],.slice 2 [],.str [],.bool false,.nslice 5,.nslice 1]
@[go_sem] abbrev z_34 : List V := [.int .i64 0,.int .i64 0,.int .i64 0,.int .i64 0,.bool false,.str [],.nslice 2,.str [],.bool false]
def l141_0 : C := .loop [] [] [5] [] (rs 12 (q3 (.bin .lss (.g 11) (.g 10))<|qe) <| sq (cd 12 .skip <| .exit 0) <| sq (bk 1 (rs 13 (qm 11<|q1 (.iad 5 (.g 9) (.g 11))<|qJ 5<|qG 5 z_0<|qV 4 0<|qs 5 5 3 2<|qe) <| i1 16 (qr 5 2<|qc 162<|qn<|yo<|qr 5 4<|qc 162<|qn<|zo 4<|yo<|qr 5 3<|qc 163<|qn<|zO 10<|qe) 31 (rs 0 (qF 2<|qe) .ret) <| i1 32 (qm 0<|qm 4<|q1 (.sl false 5 (.l 0) none (some (.l 1)))<|q1 (.fn 164 [.g 5] [5])<|q3 (.call (.k 165) .no none [.l 2,.l 3])<|qe) 36 (rs 0 (qF 2<|qe) .ret) <| r1 37 (qm 3<|qR 5 0 2<|q1 (.mks 2 1 z_1 [(0,.l 2)])<|q1 (.app 3 2 (.l 0) (.l 3))<|qv 3<|qe))) <| r1 42 (q1 (.bin .add (.g 11) (ci 1))<|qv 11<|qe))
def c141 : C := rs 0 (qF 2<|qe) <| i1 6 (qm 0<|qh false<|qK .gtr 8<|qe) 8 (rs 0 (qF 2<|qe) .ret) <| rs 3 (q3 (.mko 2)<|qe) <| sq (rs 9 (q3 (.mov (.g 0))<|qH false<|q3 (.mov (ci 0))<|qe) <| bk 0 l141_0) <| rs 43 (qm 3<|q1 (.call (.k 166) .borrow none [.l 0])<|qv 2<|qe) .ret
def F141 : F := mF 1 [.t 2] none c141
attribute [go_sem] c141 F141
def c142 : C := rs 0 (qB 2 0<|qF 4<|qe) <| rs 5 (qb 2 2<|qc 167<|ya<|qm 1<|qc 168<|za 2<|ya<|qm 1<|qr 2 0<|qr 2 1<|qC 169 (ls [7,9,11])<|za 6<|qv 4<|qe) .ret
def F142 : F := mF 2 [.t 4] none c142
attribute [go_sem] c142 F142
def l147_1 : C := .loop [] [] [] [] (lq 57 (qm 5<|qm 0<|qh false<|qQ .lss 0<|qe) 60 2 <| sq (bk 3 (rt 63 (qm 0<|qm 5<|qi 5<|qg 2<|qj<|qm 0<|qm 4<|qi 5<|qg 2<|qj<|qQ .eql 4<|qe) <| cd 73 (rs 0 (qF 2<|qe) .ret) .skip)) <| r1 61 (qm 5<|qk .add 1<|qv 5<|qe))
def l147_0 : C := .loop [] [] [] [] (lq 9 (qm 4<|qm 0<|qh false<|qQ .lss 0<|qe) 12 0 <| sq (bk 1 (rs 15 (qm 3<|qm 0<|qm 4<|qi 5<|qg 0<|qJ 2<|q1 (.mks 2 1 z_1 [(0,.l 5)])<|q1 (.app 3 2 (.l 0) (.l 6))<|qv 3<|qe) <| i1 23 (qm 0<|qm 4<|qi 5<|qg 2<|qj<|qc 173<|qn<|yo<|qm 0<|qm 4<|qi 5<|qg 4<|qj<|qc 173<|qn<|zo 7<|yo<|qm 0<|qm 4<|qi 5<|qg 3<|qj<|qk .lss 1<|zo 16<|yo<|qm 0<|qm 4<|qi 5<|qg 3<|qj<|qk .gtr 3<|zO 24<|qe) 54 (rs 0 (qF 2<|qe) .ret) <| rs 55 (qm 4<|qk .add 1<|qv 5<|qe) <| bk 2 l147_1)) <| r1 13 (qm 4<|qk .add 1<|qv 4<|qe))
def c147 : C := rs 0 (qF 2<|qe) <| i1 6 (qm 0<|qh false<|qK .gtr 8<|qe) 8 (rs 0 (qF 2<|qe) .ret) <| rs 3 (q3 (.mko 2)<|qe) <| sq (rs 0 (qz 4 0<|qe) <| bk 0 l147_0) <| rs 74 (qm 3<|q1 (.call (.k 174) .borrow none [.l 0])<|qv 2<|qe) .ret
def F147 : F := mF 1 [.t 2] none c147
attribute [go_sem] c147 F147
def l149_0 : C := .loop [] [] [] [] (lq 13 (qm 6<|qm 0<|qh false<|qQ .lss 0<|qe) 16 0 <| sq (bk 1 (rs 19 (qm 0<|qm 6<|qi 5<|qg 0<|qJ 2<|qm 1<|q3 (.call (.k 142) .no none [.l 4,.l 5])<|qe) <| cd 25 (rs 26 (qm 0<|qm 6<|qi 5<|qJ 5<|qt 4 5 3<|qT 5<|qe) .ret) .skip)) <| r1 17 (qm 6<|qk .add 1<|qv 6<|qe))
def c149 : C := rs 0 (qG 4 z_0<|qF 5<|qe) <| i1 7 (qm 1<|qh true<|qK .eql 0<|qe) 9 (rs 10 (qm 0<|q1 (.iad 5 (.l 0) (ci 0))<|qJ 5<|qt 4 5 2<|qT 5<|qe) .ret) <| sq (rs 0 (qz 6 0<|qe) <| bk 0 l149_0) <| rs 30 (q1 (.build z_0 [])<|qt 4 5 0<|qF 5<|qe) .ret
def F149 : F := mF 2 [.cell 4 (some 5),.t 5] none c149
attribute [go_sem] c149 F149
def l153_0 : C := .loop [] [] [] [] (lq 11 (qm 5<|qm 0<|qh false<|qQ .lss 0<|qe) 14 0 <| sq (bk 1 (rt 17 (qm 0<|qm 5<|qi 5<|qJ 5<|qm 1<|qm 5<|qi 5<|qJ 5<|q3 (.eqa true [.s,.s,.i,.i,.i] (.l 3) (.l 7))<|qe) <| cd 25 (rs 0 (qF 4<|qe) .ret) .skip)) <| r1 15 (qm 5<|qk .add 1<|qv 5<|qe))
def c153 : C := rs 0 (qF 4<|qe) <| i1 6 (qm 0<|qh false<|qm 1<|qh false<|qQ .neq 1<|qe) 10 (rs 0 (qF 4<|qe) .ret) <| sq (rs 0 (qz 5 0<|qe) <| bk 0 l153_0) <| rs 0 (qT 4<|qe) .ret
def F153 : F := mF 2 [.t 4] none c153
attribute [go_sem] c153 F153
def c162 : C := rs 0 (qF 2<|qe) <| rs 3 (qm 0<|qk .geq 1<|ya<|qm 0<|qk .leq 1099511627776<|za 2<|qv 2<|qe) .ret
def F162 : F := mF 1 [.t 2] none c162
attribute [go_sem] c162 F162
def c163 : C := rs 0 (qF 2<|qe) <| rs 3 (qm 0<|qk .geq 1<|ya<|qm 0<|qk .leq 3<|za 2<|qv 2<|qe) .ret
def F163 : F := mF 1 [.t 2] none c163
attribute [go_sem] c163 F163
def c164 : C := rs 0 (qB 2 0<|qF 3<|qe) <| rs 4 (qr 2 2<|qf 1 2<|qj<|qq .eql 1<|qv 3<|qe) .ret
def F164 : F := mF 2 [.t 3] none c164
attribute [go_sem] c164 F164
def c165 : C := rs 0 (qF 4<|qe) <| rs 5 (qm 0<|qm 1<|qd 185<|qk .geq 0<|qv 4<|qe) .ret
def F165 : F := mF 2 [.t 4] none c165
attribute [go_sem] c165 F165
def l166_0 : C := .loop [] [] [5] [] (rs 9 (q3 (.bin .lss (.g 8) (.g 7))<|qe) <| sq (cd 9 .skip <| .exit 0) <| sq (bk 1 (rs 10 (qm 8<|q1 (.iad 2 (.g 6) (.g 8))<|qJ 2<|qG 5 z_1<|qV 4 0<|qs 5 2 3 2<|qe) <| i1 13 (qb 5 2<|qc 186<|qn<|yo<|qr 5 0<|qm 3<|qq .neq 5<|zo 3<|yo<|qm 4<|qk .gtr 0<|ya<|qm 3<|q1 (.bin .eql (.l 13) (.c (.str [])))<|y0 9<|qa 12<|zO 9<|qe) 29 (rs 0 (qF 2<|qe) .ret) <| r1 30 (qr 5 1<|qv 3<|qe))) <| r1 32 (q1 (.bin .add (.g 8) (ci 1))<|qv 8<|qe))
def c166 : C := rs 0 (qF 2<|qe) <| rs 0 (qE 3<|qe) <| sq (rs 6 (q3 (.mov (.g 0))<|qH false<|q3 (.mov (ci 0))<|qe) <| bk 0 l166_0) <| rs 33 (qm 0<|qh false<|qk .gtr 0<|ya<|qm 3<|q1 (.bin .eql (.l 4) (.c (.str [])))<|za 3<|qv 2<|qe) .ret
def F166 : F := mF 1 [.t 2] none c166
attribute [go_sem] c166 F166
def c167 : C := rs 0 (qB 1 0<|qF 2<|qe) <| i1 3 (qr 1 0<|qh true<|qk .gtr 0<|ya<|qr 1 0<|qc 168<|qn<|zA 4<|qe) 12 (rs 0 (qF 2<|qe) .ret) <| i1 13 (qr 1 1<|qh true<|qK .eql 0<|qe) 16 (rs 0 (qT 2<|qe) .ret) <| rs 17 (qr 1 1<|qc 168<|ya<|qr 1 0<|qr 1 1<|qC 187 (ls [5,7])<|qk .eql (-1)<|za 3<|qv 2<|qe) .ret
def F167 : F := mF 1 [.t 2] none c167
attribute [go_sem] c167 F167
def l168_0 : C := .loop [] [] [] [] (lq 13 (qm 0<|qh true<|qK .gtr 0<|qe) 15 0 <| bk 1 (rs 17 (qm 0<|qc 188<|q2 16 (.mov (.l 1))<|qx 0<|qy 1<|qw 3<|qw 4<|qe) <| i1 21 (qm 3<|qc 189<|qN<|qe) 23 (rs 0 (qF 2<|qe) .ret) <| r1 24 (qm 0<|qm 4<|q1 (.sl true 0 (.l 0) (some (.l 1)) none)<|qv 0<|qe)))
def c168 : C := rs 0 (qF 2<|qe) <| i1 5 (qm 0<|qh true<|qk .eql 0<|yo<|qm 0<|qh true<|qk .gtr 16<|zO 3<|qe) 12 (rs 0 (qF 2<|qe) .ret) <| sq (bk 0 l168_0) <| rs 0 (qT 2<|qe) .ret
def F168 : F := mF 1 [.t 2] none c168
attribute [go_sem] c168 F168
def c169 : C := rs 0 (qF 6<|qe) <| rs 7 (qm 0<|qm 1<|qd 187<|qk .geq 0<|ya<|qm 2<|qh true<|qk .eql 0<|yo<|qm 0<|qm 2<|qd 187<|qk .lss 0<|y1 4<|qo 8<|za 4<|qv 6<|qe) .ret
def F169 : F := mF 3 [.t 6] none c169
attribute [go_sem] c169 F169
def c171 : C := rs 0 (qB 2 0<|qF 4<|qe) <| rs 5 (qb 2 2<|qc 186<|ya<|qm 1<|qc 170<|za 2<|ya<|qr 2 0<|qm 1<|qd 192<|qk .leq 0<|za 6<|ya<|qr 2 1<|q1 (.bin .eql (.l 15) (.c (.str [])))<|yo<|qm 1<|qr 2 1<|qC 192 (ls [18,20])<|qk .lss 0<|y1 13<|qo 17<|za 13<|qv 4<|qe) .ret
def F171 : F := mF 2 [.t 4] none c171
attribute [go_sem] c171 F171
def c173 : C := rs 0 (qF 2<|qe) <| rs 3 (qm 0<|qk .gtr 0<|ya<|qm 0<|qk .leq 1099511627776<|za 2<|qv 2<|qe) .ret
def F173 : F := mF 1 [.t 2] none c173
attribute [go_sem] c173 F173
def l174_0 : C := .loop [] [] [5] [] (lq 20 (qm 4<|qm 0<|qh false<|qQ .lss 0<|qe) 23 0 <| sq (bk 1 (rt 27 (qb 3 2<|qm 0<|qm 4<|qi 2<|qJ 2<|qC 184 (ls [0,4])<|q2 26 (.mov (.l 5))<|qx 0<|qy 1<|qG 5 z_1<|qs 5 2 9 7<|qV 6 8<|qe) <| i1 35 (qm 6<|qK .neq 0<|qe) 36 (rs 0 (qF 2<|qe) .ret) <| r1 37 (qb 5 2<|qt 3 2 0<|qe))) <| r1 24 (qm 4<|qk .add 1<|qv 4<|qe))
def c174 : C := rs 0 (qF 2<|qe) <| i1 7 (qm 0<|qh false<|qk .eql 0<|yo<|qm 0<|q1 (.iad 2 (.l 4) (ci 0))<|qJ 2<|qc 167<|qn<|zO 3<|qe) 16 (rs 0 (qF 2<|qe) .ret) <| rs 17 (qm 0<|q1 (.iad 2 (.l 0) (ci 0))<|qJ 2<|qG 3 z_1<|qs 3 2 3 2<|qe) <| sq (rs 0 (qz 4 1<|qe) <| bk 0 l174_0) <| rs 38 (qb 3 2<|q1 (.build z_1 [])<|q1 (.eqa false [.s,.s] (.l 0) (.l 1))<|qv 2<|qe) .ret
def F174 : F := mF 1 [.t 2] none c174
attribute [go_sem] c174 F174
def c184 : C := rs 0 (qB 2 0<|qB 3 1<|qG 4 z_1<|qz 5 0<|qe) <| i1 6 (qb 2 2<|qc 167<|qn<|yo<|qb 3 2<|qc 167<|qn<|zO 3<|qe) 13 (rs 14 (q1 (.build z_1 [])<|qt 4 2 0<|qz 5 1<|qe) .ret) <| i1 15 (qr 2 1<|qh true<|qk .eql 0<|yo<|qr 2 1<|qr 3 0<|qq .neq 6<|zO 4<|qe) 25 (rs 26 (q1 (.build z_1 [])<|qt 4 2 0<|qz 5 9<|qe) .ret) <| rs 27 (qr 2 0<|qr 3 1<|q1 (.build z_1 [(0,1,.l 1),(1,1,.l 3)])<|qt 4 2 4<|qz 5 0<|qe) .ret
def F184 : F := mF 2 [.cell 4 (some 2),.t 5] none c184
attribute [go_sem] c184 F184
def l185_0 : C := .loop [] [] [] [] (rs 9 (q3 (.bin .lss (.g 8) (.g 7))<|qe) <| sq (cd 9 .skip <| .exit 0) <| sq (bk 1 (rs 10 (qm 8<|qv 5<|qe) <| rs 11 (qm 1<|qm 0<|qm 5<|qi 5<|qJ 5<|q3 (.call (.v (.l 0)) .no none [.l 4])<|qe) <| cd 16 (rs 17 (qm 5<|qv 4<|qe) .ret) .skip)) <| r1 18 (q1 (.bin .add (.g 8) (ci 1))<|qv 8<|qe))
def c185 : C := rs 0 (qz 4 0<|qe) <| sq (rs 6 (qm 0<|qH false<|q3 (.mov (ci 0))<|qe) <| bk 0 l185_0) <| rs 0 (qz 4 (-1)<|qe) .ret
def F185 : F := mF 2 [.t 4] none c185
attribute [go_sem] c185 F185
def c186 : C := rs 0 (qB 1 0<|qF 2<|qe) <| i1 3 (qr 1 0<|q1 (.bin .neq (.l 1) (.c (.str [])))<|ya<|qr 1 0<|qc 170<|qn<|zA 3<|qe) 11 (rs 0 (qF 2<|qe) .ret) <| rs 12 (qr 1 1<|q1 (.bin .eql (.l 1) (.c (.str [])))<|yo<|qr 1 1<|qc 170<|ya<|qr 1 0<|qr 1 1<|qC 192 (ls [9,11])<|qk .lss 0<|y0 3<|qa 7<|zo 3<|qv 2<|qe) .ret
def F186 : F := mF 1 [.t 2] none c186
attribute [go_sem] c186 F186
def l187_0 : C := .loop [] [] [] [] (lq 12 (qm 7<|qm 5<|qh false<|qq .lss 0<|ya<|qm 7<|qm 6<|qh false<|qq .lss 5<|zA 4<|qe) 21 0 <| sq (bk 1 (i2 24 (qm 5<|qm 7<|qi 1<|qj<|qm 6<|qm 7<|qi 1<|qj<|qQ .lss 3<|qe) 32 (rs 0 (qz 4 (-1)<|qe) .ret) <| rt 33 (qm 5<|qm 7<|qi 1<|qj<|qm 6<|qm 7<|qi 1<|qj<|qQ .gtr 3<|qe) <| cd 41 (rs 0 (qz 4 1<|qe) .ret) .skip)) <| r1 22 (qm 7<|qk .add 1<|qv 7<|qe))
def c187 : C := rs 0 (qz 4 0<|qe) <| rs 8 (qm 0<|qc 195<|qm 1<|qc 195<|qV 5 1<|qw 6<|qe) <| sq (rs 0 (qz 7 0<|qe) <| bk 0 l187_0) <| i1 42 (qm 5<|qh false<|qm 6<|qh false<|qQ .lss 1<|qe) 46 (rs 0 (qz 4 (-1)<|qe) .ret) <| i1 47 (qm 5<|qh false<|qm 6<|qh false<|qQ .gtr 1<|qe) 51 (rs 0 (qz 4 1<|qe) .ret) <| rs 0 (qz 4 0<|qe) .ret
def F187 : F := mF 2 [.t 4] none c187
attribute [go_sem] c187 F187
def l188_0 : C := .loop [] [] [] [] (lq 46 (qm 7<|qm 5<|qQ .lss 0<|qe) 48 0 <| sq (bk 1 (i1 51 (qm 0<|qm 7<|q1 (.idx (.l 0) (.l 1))<|q1 (.bin .lss (.l 2) (.c (.int .u8 128)))<|yo<|qm 0<|qm 7<|q1 (.idx (.l 5) (.l 6))<|q1 (.bin .gtr (.l 7) (.c (.int .u8 191)))<|zO 4<|qe) 60 (rs 0 (qz 2 (-1)<|qz 3 1<|qe) .ret) <| r1 61 (qm 4<|q1 (.bin .mul (ci 64) (.l 0))<|qm 0<|qm 7<|q1 (.idx (.l 2) (.l 3))<|q1 (.conv (.int .i64) (.l 4))<|qq .add 1<|qk .sub 128<|qv 4<|qe))) <| r1 49 (qm 7<|qk .add 1<|qv 7<|qe))
def c188 : C := rs 0 (qz 2 0<|qz 3 0<|qe) <| rs 8 (qm 0<|q1 (.idx (.l 0) (ci 0))<|q1 (.conv (.int .i64) (.l 1))<|qv 4<|qe) <| i1 11 (qm 4<|qK .lss 128<|qe) 12 (rs 13 (qm 4<|qv 2<|qz 3 1<|qe) .ret) <| rs 0 (qz 5 0<|qz 6 0<|qe) <| sq (rs 14 (qm 4<|qk .geq 194<|ya<|qm 4<|qk .lss 224<|zA 2<|qe) <| cd 19 (r1 20 (qm 4<|qk .sub 192<|qz 5 2<|qz 6 128<|qV 4 1<|qe)) <| rs 22 (qm 4<|qk .geq 224<|ya<|qm 4<|qk .lss 240<|zA 2<|qe) <| cd 27 (r1 28 (qm 4<|qk .sub 224<|qz 5 3<|qz 6 2048<|qV 4 1<|qe)) <| rs 30 (qm 4<|qk .geq 240<|ya<|qm 4<|qk .lss 245<|zA 2<|qe) <| cd 35 (r1 36 (qm 4<|qk .sub 240<|qz 5 4<|qz 6 65536<|qV 4 1<|qe)) .skip) <| i1 38 (qm 5<|qk .eql 0<|yo<|qm 0<|qh true<|qm 5<|qq .lss 4<|zO 2<|qe) 45 (rs 0 (qz 2 (-1)<|qz 3 1<|qe) .ret) <| sq (rs 0 (qz 7 1<|qe) <| bk 0 l188_0) <| i1 69 (qm 4<|qm 6<|qq .lss 0<|yo<|qm 4<|qk .gtr 1114111<|zo 3<|yo<|qm 4<|qk .geq 55296<|ya<|qm 4<|qk .lss 57344<|y0 7<|qa 10<|zO 7<|qe) 83 (rs 0 (qz 2 (-1)<|qz 3 1<|qe) .ret) <| rs 84 (qm 4<|qm 5<|qw 2<|qw 3<|qe) .ret
def F188 : F := mF 1 [.t 2,.t 3] none c188
attribute [go_sem] c188 F188
def c189 : C := rs 0 (qF 2<|qe) <| rs 3 (qm 0<|qk .gtr 32<|ya<|qm 0<|qk .neq 127<|za 2<|ya<|qm 0<|qk .lss 128<|yo<|qm 0<|qk .gtr 159<|y1 6<|qo 9<|za 6<|qv 2<|qe) .ret
def F189 : F := mF 1 [.t 2] none c189
attribute [go_sem] c189 F189
def c191 : C := rs 0 (qF 4<|qe) <| rs 5 (qm 0<|q1 (.bin .geq (.l 0) (.c (.int .i32 33)))<|ya<|qm 0<|q1 (.bin .lss (.l 3) (.c (.int .i32 127)))<|yo<|qm 0<|q1 (.bin .gtr (.l 6) (.c (.int .i32 159)))<|y1 2<|qo 5<|za 2<|ya<|qm 0<|q1 (.bin .neq (.l 11) (.c (.int .i32 65533)))<|yo<|qm 1<|qk .eql 3<|y1 10<|qo 13<|za 10<|qv 4<|qe) .ret
def F191 : F := mF 2 [.t 4] none c191
attribute [go_sem] c191 F191
def l192_0 : C := .loop [] [] [] [] (lq 9 (qm 0<|q1 (.bin .neq (.l 0) (.c (.str [])))<|ya<|qm 1<|q1 (.bin .neq (.l 3) (.c (.str [])))<|zA 2<|qe) 14 0 <| bk 1 (rs 16 (qm 0<|qc 190<|q2 15 (.mov (.l 1))<|qx 0<|qy 1<|qw 5<|qw 6<|qe) <| rs 21 (qm 1<|qc 190<|q2 20 (.mov (.l 1))<|qx 0<|qy 1<|qw 7<|qw 8<|qe) <| sq (bk 2 (rs 26 (qm 5<|qm 7<|qq .lss 0<|qv 25<|qe) <| cd 25 (rs 0 (qz 4 (-1)<|qe) .ret) <| rs 30 (qm 5<|qm 7<|qq .gtr 0<|qv 29<|qe) <| cd 29 (rs 0 (qz 4 1<|qe) .ret) .skip)) <| r2 33 (qm 0<|qm 6<|q1 (.sl true 0 (.l 0) (some (.l 1)) none)<|qm 1<|qm 8<|q1 (.sl true 0 (.l 3) (some (.l 4)) none)<|qV 0 2<|qw 1<|qe)))
def c192 : C := rs 0 (qz 4 0<|qe) <| sq (bk 0 l192_0) <| sq (bk 3 (rs 40 (qm 0<|q1 (.bin .neq (.l 0) (.c (.str [])))<|qv 39<|qe) <| cd 39 (rs 0 (qz 4 1<|qe) .ret) <| rs 43 (qm 1<|q1 (.bin .neq (.l 0) (.c (.str [])))<|qv 42<|qe) <| cd 42 (rs 0 (qz 4 (-1)<|qe) .ret) .skip)) <| rs 0 (qz 4 0<|qe) .ret
def F192 : F := mF 2 [.t 4] none c192
attribute [go_sem] c192 F192
def l195_0 : C := .loop [] [] [] [] (lq 6 (qm 0<|qh true<|qK .gtr 0<|qe) 8 0 <| bk 1 (rs 10 (qm 0<|qc 188<|q2 9 (.mov (.l 1))<|qx 0<|qy 1<|qw 4<|qw 5<|qe) <| i1 14 (qm 4<|qK .lss 0<|qe) 15 (r1 0 (qz 4 65533<|qe)) <| rs 16 (qm 3<|qm 4<|q1 (.mks 1 1 [.int .i64 0] [(0,.l 1)])<|q1 (.app 3 1 (.l 0) (.l 2))<|qv 3<|qe) <| r1 20 (qm 0<|qm 5<|q1 (.sl true 0 (.l 0) (some (.l 1)) none)<|qv 0<|qe)))
def c195 : C := rs 0 (qS 2 1<|qe) <| rs 3 (q3 (.mko 1)<|qe) <| sq (bk 0 l195_0) <| rs 23 (qm 3<|qv 2<|qe) .ret
def F195 : F := mF 1 [.t 2] none c195
attribute [go_sem] c195 F195
def c3 : C := rs 0 (qB 3 1<|qS 4 5<|qz 5 0<|qe) <| sq (bk 0 (rs 7 (qm 0<|qc 7<|qn<|yo<|qb 3 5<|qc 22<|qn<|zo 3<|qv 6<|qe) <| cd 6 (rs 0 (qS 4 5<|qz 5 1<|qe) .ret) <| rt 16 (qm 0<|qh false<|qk .gtr 0<|ya<|qm 0<|qm 0<|qh false<|qk .sub 1<|q1 (.iad 5 (.l 4) (.l 7))<|qg 0<|qJ 3<|qR 3 0 3<|qC 15 (ls [10,12])<|qk .geq 0<|za 3<|qv 15<|qe) <| cd 15 (rs 0 (qS 4 5<|qz 5 9<|qe) .ret) <| rs 33 (qm 0<|qh false<|qk .eql 64<|qv 32<|qe) <| cd 32 (rs 0 (qS 4 5<|qz 5 6<|qe) .ret) .skip)) <| rt 36 (qm 0<|q1 (.call (.k 23) .no (some 0) [.l 0])<|qb 3 5<|q1 (.mks 5 1 z_2 [(0,.l 2)])<|q1 (.app 37 5 (.l 1) (.l 3))<|qv 4<|qz 5 0<|qe) .ret
def F3 : F := mF 2 [.t 4,.t 5] none c3
attribute [go_sem] c3 F3
def l4_0 : C := .loop [] [] [] [] (lq 7 (qm 3<|qm 0<|qh false<|qQ .lss 0<|qe) 10 0 <| sq (bk 1 (i1 13 (qm 0<|qm 3<|qi 5<|qJ 5<|qc 5<|qN<|qe) 18 (rs 0 (qF 2<|qe) .ret) <| rt 19 (qm 3<|qk .gtr 0<|ya<|qm 0<|qm 3<|qk .sub 1<|q1 (.iad 5 (.l 3) (.l 5))<|qg 0<|qJ 3<|qm 0<|qm 3<|qi 5<|qg 0<|qJ 3<|qC 6 (ls [8,13])<|qn<|zA 2<|qe) <| cd 35 (rs 0 (qF 2<|qe) .ret) .skip)) <| r1 11 (qm 3<|qk .add 1<|qv 3<|qe))
def c4 : C := rs 0 (qF 2<|qe) <| i1 4 (qm 0<|qh false<|qK .gtr 64<|qe) 6 (rs 0 (qF 2<|qe) .ret) <| sq (rs 0 (qz 3 0<|qe) <| bk 0 l4_0) <| rs 0 (qT 2<|qe) .ret
def F4 : F := mF 1 [.t 2] none c4
attribute [go_sem] c4 F4
def c5 : C := rs 0 (qB 1 0<|qF 2<|qe) <| i1 3 (qr 1 3<|ya<|qr 1 4<|qh true<|qk .gtr 0<|zA 2<|qe) 10 (rs 0 (qF 2<|qe) .ret) <| rs 11 (qR 1 0 3<|qc 24<|ya<|qr 1 4<|qh true<|qk .lss 17<|za 3<|qv 2<|qe) .ret
def F5 : F := mF 1 [.t 2] none c5
attribute [go_sem] c5 F5
def c6 : C := rs 0 (qB 2 0<|qB 3 1<|qF 4<|qe) <| i1 5 (qr 2 0<|qr 3 0<|qQ .neq 1<|qe) 9 (rs 10 (qr 2 0<|qr 3 0<|qq .lss 1<|qv 4<|qe) .ret) <| i1 15 (qr 2 1<|qr 3 1<|qQ .neq 1<|qe) 19 (rs 20 (qr 2 1<|qr 3 1<|qq .lss 1<|qv 4<|qe) .ret) <| rs 25 (qr 2 2<|qr 3 2<|qq .lss 1<|qv 4<|qe) .ret
def F6 : F := mF 2 [.t 4] none c6
attribute [go_sem] c6 F6
def l7_0 : C := .loop [] [] [4] [] (rs 8 (q3 (.bin .lss (.g 7) (.g 6))<|qe) <| sq (cd 8 .skip <| .exit 0) <| sq (bk 1 (rs 9 (qm 7<|q1 (.iad 5 (.g 5) (.g 7))<|qJ 5<|qG 4 z_2<|qV 3 0<|qs 4 5 3 2<|qe) <| rt 12 (qb 4 5<|qc 22<|qn<|yo<|qm 3<|qk .gtr 0<|ya<|qm 0<|qm 3<|qk .sub 1<|q1 (.iad 5 (.l 7) (.l 9))<|qg 0<|qJ 3<|qR 4 0 3<|qC 15 (ls [12,14])<|qk .geq 0<|y0 3<|qa 6<|zO 3<|qe) <| cd 30 (rs 0 (qF 2<|qe) .ret) .skip)) <| r1 31 (q1 (.bin .add (.g 7) (ci 1))<|qv 7<|qe))
def c7 : C := rs 0 (qF 2<|qe) <| sq (rs 5 (q3 (.mov (.g 0))<|qH false<|q3 (.mov (ci 0))<|qe) <| bk 0 l7_0) <| rs 32 (qm 0<|qh false<|qk .leq 64<|qv 2<|qe) .ret
def F7 : F := mF 1 [.t 2] none c7
attribute [go_sem] c7 F7
def c15 : C := rs 0 (qB 2 0<|qB 3 1<|qz 4 0<|qe) <| rt 5 (qr 2 0<|qr 3 0<|qC 26 (ls [1,3])<|qr 2 1<|qr 3 1<|qC 26 (ls [6,8])<|qr 2 2<|qr 3 2<|qC 26 (ls [11,13])<|q1 (.mks 1 3 [.int .i64 0] [(0,.l 4),(1,.l 9),(2,.l 14)])<|qc 27<|qv 4<|qe) .ret
def F15 : F := mF 2 [.t 4] none c15
attribute [go_sem] c15 F15
def c22 : C := rs 0 (qB 1 0<|qF 2<|qe) <| rs 3 (qR 1 0 3<|qc 28<|ya<|qr 1 4<|qh true<|qk .leq 16<|za 3<|ya<|qr 1 3<|qn<|yo<|qr 1 4<|q1 (.bin .eql (.l 15) (.c (.str [])))<|y1 9<|qo 13<|za 9<|qv 2<|qe) .ret
def F22 : F := mF 1 [.t 2] none c22
attribute [go_sem] c22 F22
def c24 : C := rs 0 (qB 1 0<|qF 2<|qe) <| rs 3 (qr 1 0<|qk .geq 0<|ya<|qr 1 0<|qk .leq 1099511627776<|za 3<|ya<|qr 1 1<|qk .geq 0<|za 8<|ya<|qr 1 1<|qk .leq 1048576<|za 13<|ya<|qr 1 2<|qk .geq 0<|za 18<|ya<|qr 1 2<|qk .leq 255<|za 23<|qv 2<|qe) .ret
def F24 : F := mF 1 [.t 2] none c24
attribute [go_sem] c24 F24
def c26 : C := rs 0 (qz 4 0<|qe) <| rs 7 (qm 0<|qc 31<|qv 5<|qe) <| rs 9 (qm 1<|qc 31<|qv 6<|qe) <| i1 11 (q3 (.mov (.g 5))<|qe) 11 (i1 12 (q3 (.mov (.g 6))<|qe) 12 (rs 0 (qz 4 0<|qe) .ret) <| rs 0 (qz 4 (-1)<|qe) .ret) <| i1 13 (q3 (.mov (.g 6))<|qe) 13 (rs 0 (qz 4 1<|qe) .ret) <| i1 14 (qm 0<|qm 1<|qQ .lss 0<|qe) 16 (rs 0 (qz 4 (-1)<|qe) .ret) <| i1 17 (qm 0<|qm 1<|qQ .gtr 0<|qe) 19 (rs 0 (qz 4 1<|qe) .ret) <| rs 0 (qz 4 0<|qe) .ret
def F26 : F := mF 2 [.t 4] none c26
attribute [go_sem] c26 F26
def l27_0 : C := .loop [] [] [] [] (rs 9 (q3 (.bin .lss (.g 8) (.g 7))<|qe) <| sq (cd 9 .skip <| .exit 0) <| sq (bk 1 (rs 10 (q1 (.iad 1 (.g 6) (.g 8))<|qj<|qv 5<|qe) <| rs 12 (qm 5<|qm 3<|qQ .neq 0<|qe) <| cd 14 (rs 15 (qm 5<|qv 2<|qe) .ret) .skip)) <| r1 16 (q1 (.bin .add (.g 8) (ci 1))<|qv 8<|qe))
def c27 : C := rs 0 (qz 2 0<|qe) <| rs 0 (qz 3 0<|qe) <| sq (rs 6 (q3 (.mov (.g 0))<|qH false<|q3 (.mov (ci 0))<|qe) <| bk 0 l27_0) <| rs 17 (qm 3<|qv 2<|qe) .ret
def F27 : F := mF 1 [.t 2] none c27
attribute [go_sem] c27 F27
def c28 : C := rs 0 (qB 1 0<|qF 2<|qe) <| rs 3 (qr 1 0<|qC 32 [.l 1,ci 1099511627776]<|ya<|qr 1 1<|qC 32 [.l 5,ci 1048576]<|za 3<|ya<|qr 1 2<|qC 32 [.l 10,ci 255]<|za 8<|qv 2<|qe) .ret
def F28 : F := mF 1 [.t 2] none c28
attribute [go_sem] c28 F28
def c31 : C := rs 0 (qF 2<|qe) <| rs 3 (qm 0<|qm 0<|qq .neq 0<|qv 2<|qe) .ret
def F31 : F := mF 1 [.t 2] none c31
attribute [go_sem] c31 F31
def c32 : C := rs 0 (qF 4<|qe) <| rs 5 (qm 0<|qk .geq 0<|ya<|qm 0<|qm 1<|qq .leq 3<|za 2<|qv 4<|qe) .ret
def F32 : F := mF 2 [.t 4] none c32
attribute [go_sem] c32 F32
def l80_0 : C := .loop [] [] [] [] (lq 7 (qm 3<|qm 0<|qh false<|qQ .lss 0<|qe) 10 0 <| sq (bk 1 (i1 13 (qm 0<|qm 3<|qi 11<|qg 0<|qj<|qc 95<|qn<|yo<|qm 0<|qm 3<|qi 11<|qg 1<|qj<|qc 95<|qn<|zo 7<|yo<|qm 0<|qm 3<|qi 11<|qg 2<|qJ 9<|qc 96<|qn<|zO 16<|qe) 37 (rs 0 (qF 2<|qe) .ret) <| rt 38 (qm 3<|qk .gtr 0<|ya<|qm 0<|qm 3<|qk .sub 1<|q1 (.iad 11 (.l 3) (.l 5))<|qg 0<|qj<|qm 0<|qm 3<|qi 11<|qg 0<|qj<|qq .geq 8<|zA 2<|qe) <| cd 53 (rs 0 (qF 2<|qe) .ret) .skip)) <| r1 11 (qm 3<|qk .add 1<|qv 3<|qe))
def c80 : C := rs 0 (qF 2<|qe) <| i1 4 (qm 0<|qh false<|qK .gtr 8<|qe) 6 (rs 0 (qF 2<|qe) .ret) <| sq (rs 0 (qz 3 0<|qe) <| bk 0 l80_0) <| rs 0 (qT 2<|qe) .ret
def F80 : F := mF 1 [.t 2] none c80
attribute [go_sem] c80 F80
def l81_0 : C := .loop [] [] [5] [] (rs 9 (q3 (.bin .lss (.g 8) (.g 7))<|qe) <| sq (cd 9 .skip <| .exit 0) <| sq (bk 1 (rs 10 (q1 (.iad 11 (.g 6) (.g 8))<|qJ 11<|qG 5 z_3<|qs 5 11 2 1<|qe) <| i1 12 (qr 5 0<|qm 3<|qq .leq 1<|yo<|qr 5 0<|qc 97<|qn<|zo 4<|yo<|qr 5 1<|qc 97<|qn<|zo 10<|yo<|qR 5 2 9<|qc 98<|qn<|zO 16<|qe) 33 (rs 0 (qF 2<|qe) .ret) <| r1 34 (qr 5 0<|qv 3<|qe))) <| r1 36 (q1 (.bin .add (.g 8) (ci 1))<|qv 8<|qe))
def c81 : C := rs 0 (qF 2<|qe) <| rs 0 (qz 3 0<|qe) <| sq (rs 6 (q3 (.mov (.g 0))<|qH false<|q3 (.mov (ci 0))<|qe) <| bk 0 l81_0) <| rs 37 (qm 0<|qh false<|qk .leq 8<|qv 2<|qe) .ret
def F81 : F := mF 1 [.t 2] none c81
attribute [go_sem] c81 F81
def c82 : C := rs 0 (qz 6 0<|qe) <| i1 9 (qm 0<|qc 81<|qn<|yo<|qm 1<|qc 97<|qn<|zo 3<|yo<|qm 2<|qc 97<|qn<|zO 8<|qe) 21 (rs 0 (qz 6 0<|qe) .ret) <| rs 23 (qm 0<|qm 1<|qd 84<|q2 22 (.mov (.l 2))<|qx 0<|qy 1<|qG 7 z_3<|qs 7 11 6 4<|qV 8 5<|qe) <| sq (bk 0 (rs 29 (qm 8<|qn<|yo<|qm 2<|qr 7 1<|qq .gtr 3<|zo 2<|qv 28<|qe) <| cd 28 (rs 0 (qz 6 1<|qe) .ret) <| rs 38 (qm 2<|qr 7 1<|qq .eql 0<|qv 37<|qe) <| cd 37 (rs 0 (qz 6 2<|qe) .ret) .skip)) <| rs 0 (qz 6 3<|qe) .ret
def F82 : F := mF 3 [.t 6] none c82
attribute [go_sem] c82 F82
def c84 : C := rs 0 (qG 4 z_3<|qF 5<|qe) <| i1 8 (qm 0<|qc 81<|qN<|qe) 10 (rs 11 (q1 (.build z_3 [])<|qt 4 11 0<|qF 5<|qe) .ret) <| rs 13 (qm 0<|qm 1<|qd 100<|q2 12 (.mov (.l 2))<|qx 0<|qy 1<|qw 6<|qw 7<|qe) <| i1 18 (qm 7<|qN<|qe) 19 (rs 20 (q1 (.build z_3 [])<|qt 4 11 0<|qF 5<|qe) .ret) <| rs 21 (qm 0<|qm 6<|qi 11<|qJ 11<|qt 4 11 3<|qT 5<|qe) .ret
def F84 : F := mF 2 [.cell 4 (some 11),.t 5] none c84
attribute [go_sem] c84 F84
def c88 : C := rs 0 (qB 3 1<|qS 4 11<|qz 5 0<|qe) <| i1 9 (qm 0<|qc 81<|qn<|yo<|qb 3 11<|q1 (.mks 11 1 z_3 [(0,.l 4)])<|qc 81<|qn<|zO 3<|qe) 17 (rs 0 (qS 4 11<|qz 5 1<|qe) .ret) <| rs 19 (qm 0<|qr 3 0<|qC 100 (ls [0,2])<|q2 18 (.mov (.l 3))<|qx 0<|qy 1<|qw 6<|qw 7<|qe) <| sq (bk 0 (rt 26 (qm 7<|ya<|qm 0<|qm 6<|qi 11<|qg 1<|qj<|qr 3 1<|qq .geq 6<|za 1<|qv 25<|qe) <| cd 25 (rs 0 (qS 4 11<|qz 5 9<|qe) .ret) <| rs 38 (qm 7<|qn<|ya<|qm 0<|qh false<|qk .eql 8<|za 2<|qv 37<|qe) <| cd 37 (rs 0 (qS 4 11<|qz 5 6<|qe) .ret) .skip)) <| rs 45 (qm 0<|q1 (.call (.k 102) .no (some 0) [.l 0])<|qv 8<|qe) <| i1 47 (q3 (.mov (.g 7))<|qe) 47 (rs 48 (qm 8<|qm 6<|qb 3 11<|q1 (.iad 11 (.l 0) (.l 1))<|q5 (.store (.e 46) 11 (.l 3) (.l 2))<|qe) <| rs 52 (qm 8<|qv 4<|qz 5 0<|qe) .ret) <| rs 53 (qm 8<|qm 6<|qb 3 11<|q1 (.mks 11 1 z_3 [(0,.l 2)])<|q1 (.ins 103 46 11 (.l 0) (.l 1) (.l 3))<|qv 4<|qz 5 0<|qe) .ret
def F88 : F := mF 2 [.t 4,.t 5] none c88
attribute [go_sem] c88 F88
def c95 : C := rs 0 (qF 2<|qe) <| rs 3 (qm 0<|qk .gtr 0<|ya<|qm 0<|qk .leq 1099511627776<|za 2<|qv 2<|qe) .ret
def F95 : F := mF 1 [.t 2] none c95
attribute [go_sem] c95 F95
def c96 : C := rs 0 (qB 1 0<|qF 2<|qe) <| i1 3 (qr 1 0<|qk .lss 0<|yo<|qr 1 0<|qk .gtr 16<|zo 3<|yo<|qr 1 5<|qh true<|qk .gtr 16<|zo 8<|yo<|qr 1 6<|qh false<|qk .gtr 0<|zo 14<|yo<|qr 1 7<|qh true<|qk .gtr 0<|zo 20<|yo<|qr 1 8<|zO 26<|qe) 32 (rs 0 (qF 2<|qe) .ret) <| rs 33 (qR 1 1 3<|qc 24<|qv 2<|qe) .ret
def F96 : F := mF 1 [.t 2] none c96
attribute [go_sem] c96 F96
def c97 : C := rs 0 (qF 2<|qe) <| rs 3 (qm 0<|qk .geq 1<|ya<|qm 0<|qk .leq 1099511627776<|za 2<|qv 2<|qe) .ret
def F97 : F := mF 1 [.t 2] none c97
attribute [go_sem] c97 F97
def c98 : C := rs 0 (qB 1 0<|qF 2<|qe) <| rs 3 (qr 1 0<|qk .geq 0<|ya<|qr 1 0<|qk .leq 16<|za 3<|ya<|qR 1 1 3<|qc 28<|za 8<|ya<|qr 1 5<|qh true<|qk .leq 16<|za 13<|ya<|qr 1 6<|qh false<|qk .eql 0<|za 19<|ya<|qr 1 7<|q1 (.bin .eql (.l 27) (.c (.str [])))<|za 25<|ya<|qr 1 8<|qn<|za 30<|qv 2<|qe) .ret
def F98 : F := mF 1 [.t 2] none c98
attribute [go_sem] c98 F98
def c100 : C := rs 0 (qB 3 1<|qz 4 0<|qF 5<|qe) <| rs 7 (qm 0<|q1 (.fn 105 [.g 3] [3])<|qd 106<|qv 6<|qe) <| i1 10 (qm 6<|qK .lss 0<|qe) 11 (rs 12 (qm 0<|qh false<|qv 4<|qF 5<|qe) .ret) <| rt 14 (qm 6<|qm 0<|qm 6<|qi 11<|qg 0<|qj<|q1 (.load (.v 3) none (.g 3))<|qq .eql 5<|qV 4 0<|qw 5<|qe) .ret
def F100 : F := mF 2 [.t 4,.t 5] none c100
attribute [go_sem] c100 F100
def l101_0 : C := .loop [] [] [] [] (lq 13 (qm 5<|qr 2 6<|qh false<|qQ .lss 0<|qe) 17 0 <| sq (bk 1 (rt 20 (qr 2 6<|qm 5<|qi 2<|qJ 2<|qr 3 6<|qm 5<|qi 2<|qJ 2<|q3 (.eqa true [.s,.s] (.l 4) (.l 9))<|qe) <| cd 30 (rs 0 (qF 4<|qe) .ret) .skip)) <| r1 18 (qm 5<|qk .add 1<|qv 5<|qe))
def c101 : C := rs 0 (qB 2 0<|qB 3 1<|qF 4<|qe) <| i1 6 (qr 2 6<|qh false<|qr 3 6<|qh false<|qQ .neq 2<|qe) 12 (rs 0 (qF 4<|qe) .ret) <| sq (rs 0 (qz 5 0<|qe) <| bk 0 l101_0) <| rs 31 (qr 2 0<|qr 3 0<|qq .eql 1<|ya<|qR 2 1 3<|qR 3 1 3<|q1 (.eqa false [.i,.i,.i] (.l 7) (.l 9))<|za 5<|ya<|qr 2 4<|qr 3 4<|q1 (.eqb false (.l 14) (.l 16))<|za 12<|ya<|qr 2 5<|qr 3 5<|qq .eql 21<|za 19<|ya<|qr 2 7<|qr 3 7<|qq .eql 28<|za 26<|ya<|qr 2 8<|qr 3 8<|q1 (.eqb false (.l 35) (.l 37))<|za 33<|qv 4<|qe) .ret
def F101 : F := mF 2 [.t 4] none c101
attribute [go_sem] c101 F101
def l106_0 : C := .loop [] [] [] [] (rs 9 (q3 (.bin .lss (.g 8) (.g 7))<|qe) <| sq (cd 9 .skip <| .exit 0) <| sq (bk 1 (rs 10 (qm 8<|qv 5<|qe) <| rs 11 (qm 1<|qm 0<|qm 5<|qi 11<|qJ 11<|q3 (.call (.v (.l 0)) .no none [.l 4])<|qe) <| cd 16 (rs 17 (qm 5<|qv 4<|qe) .ret) .skip)) <| r1 18 (q1 (.bin .add (.g 8) (ci 1))<|qv 8<|qe))
def c106 : C := rs 0 (qz 4 0<|qe) <| sq (rs 6 (qm 0<|qH false<|q3 (.mov (ci 0))<|qe) <| bk 0 l106_0) <| rs 0 (qz 4 (-1)<|qe) .ret
def F106 : F := mF 2 [.t 4] none c106
attribute [go_sem] c106 F106
def l37_0 : C := .loop [] [] [] [] (lq 46 (qm 3<|qr 1 6<|qh false<|qQ .lss 0<|qe) 50 0 <| sq (bk 1 (rt 53 (qr 1 2<|qr 1 6<|qm 3<|qi 1<|qj<|qC 62 (ls [1,6])<|qN<|qe) <| cd 61 (rs 0 (qF 2<|qe) .ret) .skip)) <| r1 51 (qm 3<|qk .add 1<|qv 3<|qe))
def c37 : C := rs 0 (qB 1 0<|qF 2<|qe) <| i1 4 (qr 1 0<|qk .lss 1<|yo<|qr 1 0<|qk .gtr 255<|zo 3<|yo<|qr 1 1<|qk .neq 0<|ya<|qr 1 1<|qc 60<|qn<|y0 8<|qa 12<|zo 8<|yo<|qr 1 3<|qk .neq 0<|ya<|qr 1 3<|qc 60<|qn<|y0 19<|qa 23<|zo 19<|yo<|qr 1 2<|qc 61<|qn<|zo 30<|yo<|qr 1 6<|qc 61<|qn<|zO 36<|qe) 45 (rs 0 (qF 2<|qe) .ret) <| sq (rs 0 (qz 3 0<|qe) <| bk 0 l37_0) <| i1 62 (qr 1 2<|qh false<|qk .gtr 0<|ya<|qr 1 2<|qr 1 0<|qC 62 (ls [6,8])<|qn<|zA 4<|qe) 73 (rs 0 (qF 2<|qe) .ret) <| i1 74 (qb 1 7<|qc 38<|qN<|qe) 76 (rs 77 (qr 1 6<|qh false<|qk .eql 0<|ya<|qr 1 4<|qr 1 5<|qq .eql 6<|za 4<|qv 2<|qe) .ret) <| i1 88 (qr 1 6<|qr 1 0<|qC 62 (ls [1,3])<|qN<|qe) 93 (rs 0 (qF 2<|qe) .ret) <| rs 94 (qb 1 7<|qc 42<|qn<|yo<|qr 1 4<|qr 1 5<|qq .eql 5<|zo 3<|qv 2<|qe) .ret
def F37 : F := mF 1 [.t 2] none c37
attribute [go_sem] c37 F37
def c38 : C := rs 0 (qB 1 0<|qF 2<|qe) <| rt 3 (qr 1 2<|qh false<|qk .gtr 0<|ya<|qr 1 2<|q1 (.iad 1 (.l 6) (ci 0))<|qj<|qr 1 0<|qq .eql 8<|za 4<|qv 2<|qe) .ret
def F38 : F := mF 1 [.t 2] none c38
attribute [go_sem] c38 F38
def c39 : C := rs 0 (qB 1 0<|qF 2<|qe) <| i1 3 (qr 1 0<|qk .lss 1<|yo<|qr 1 0<|qk .gtr 255<|zo 3<|yo<|qr 1 1<|qC 63 [.l 10,ci 0]<|qn<|zo 8<|yo<|qr 1 3<|qC 63 [.l 16,ci 0]<|qn<|zo 14<|yo<|qr 1 2<|qc 64<|qn<|zo 20<|yo<|qr 1 6<|qc 64<|qn<|zO 26<|qe) 34 (rs 0 (qF 2<|qe) .ret) <| i1 35 (qr 1 2<|qh false<|qk .gtr 0<|ya<|qr 1 2<|qr 1 0<|qC 65 (ls [6,8])<|qn<|zA 4<|qe) 46 (rs 0 (qF 2<|qe) .ret) <| i1 47 (qr 1 6<|q1 (.fn 66 [.g 1] [1])<|q3 (.call (.k 67) .no none [.l 1,.l 2])<|qe) 50 (rs 0 (qF 2<|qe) .ret) <| i1 51 (qb 1 7<|qc 68<|qN<|qe) 53 (rs 54 (qr 1 6<|qh false<|qk .eql 0<|ya<|qr 1 4<|qr 1 5<|qq .eql 6<|za 4<|qv 2<|qe) .ret) <| rs 65 (qr 1 6<|qr 1 0<|qC 65 (ls [1,3])<|ya<|qr 1 6<|qh false<|qr 1 2<|qh false<|qq .lss 8<|yo<|qr 1 4<|qr 1 5<|qq .eql 15<|y1 5<|qo 13<|za 5<|qv 2<|qe) .ret
def F39 : F := mF 1 [.t 2] none c39
attribute [go_sem] c39 F39
def c40 : C := rs 0 (qB 1 0<|qF 2<|qe) <| rs 3 (qb 1 7<|qc 39<|ya<|qb 1 7<|qc 68<|za 2<|qv 2<|qe) .ret
def F40 : F := mF 1 [.t 2] none c40
attribute [go_sem] c40 F40
def c41 : C := rs 0 (qB 1 0<|qF 2<|qe) <| rs 3 (qb 1 7<|qc 40<|ya<|qr 1 6<|qh false<|qr 1 2<|qh false<|qq .lss 5<|za 2<|qv 2<|qe) .ret
def F41 : F := mF 1 [.t 2] none c41
attribute [go_sem] c41 F41
def l42_0 : C := .loop [] [] [] [] (lq 4 (qm 3<|qr 1 2<|qh false<|qQ .lss 0<|qe) 8 0 <| sq (bk 1 (rt 11 (qr 1 6<|qr 1 2<|qm 3<|qi 1<|qj<|qC 62 (ls [1,6])<|qN<|qe) <| cd 19 (rs 0 (qF 2<|qe) .ret) .skip)) <| r1 9 (qm 3<|qk .add 1<|qv 3<|qe))
def c42 : C := rs 0 (qB 1 0<|qF 2<|qe) <| sq (rs 0 (qz 3 0<|qe) <| bk 0 l42_0) <| rs 0 (qT 2<|qe) .ret
def F42 : F := mF 1 [.t 2] none c42
attribute [go_sem] c42 F42
def c43 : C := rs 0 (qG 6 z_4<|qz 7 0<|qe) <| rs 9 (qm 0<|qm 1<|qc 69<|qm 2<|qm 2<|q1 (.build z_4 [(0,1,.l 0),(1,1,.c (.int .i64 1)),(2,1,.l 2),(3,1,.c (.int .i64 1)),(4,1,.l 3),(5,1,.l 4)])<|qG 8 z_4<|qs 8 7 6 5<|qe) <| i1 15 (qb 8 7<|q3 (.call (.k 68) .no none [.l 0])<|qe) 16 (r1 17 (qm 1<|qc 69<|qf 8 6<|qs 8 1 2 1<|qe)) <| i1 20 (qm 1<|qh false<|qk .eql 0<|yo<|qb 8 7<|qc 39<|qn<|zO 3<|qe) 27 (rs 28 (q1 (.build z_4 [])<|qt 6 7 0<|qz 7 1<|qe) .ret) <| rs 29 (qb 8 7<|qt 6 7 0<|qz 7 0<|qe) .ret
def F43 : F := mF 3 [.cell 6 (some 7),.t 7] none c43
attribute [go_sem] c43 F43
def c45 : C := rs 0 (qB 2 0<|qB 3 1<|qF 4<|qe) <| rs 5 (qr 2 0<|qr 3 0<|qq .eql 1<|ya<|qr 2 1<|qr 3 1<|qq .eql 7<|za 5<|ya<|qr 2 2<|qr 3 2<|qC 70 (ls [14,16])<|za 12<|ya<|qr 2 3<|qr 3 3<|qq .eql 21<|za 19<|ya<|qr 2 4<|qr 3 4<|qq .eql 28<|za 26<|ya<|qr 2 5<|qr 3 5<|qq .eql 35<|za 33<|ya<|qr 2 6<|qr 3 6<|qC 70 (ls [42,44])<|za 40<|qv 4<|qe) .ret
def F45 : F := mF 2 [.t 4] none c45
attribute [go_sem] c45 F45
def c47 : C := rs 0 (qB 2 0<|qG 4 z_4<|qS 5 7<|qz 6 0<|qe) <| sq (bk 0 (rs 8 (qb 2 7<|qc 39<|qn<|qv 7<|qe) <| cd 7 (rs 11 (q1 (.build z_4 [])<|qt 4 7 0<|qS 5 7<|qz 6 1<|qe) .ret) <| rs 13 (qb 2 7<|qc 68<|qn<|qv 12<|qe) <| cd 12 (rs 16 (q1 (.build z_4 [])<|qt 4 7 0<|qS 5 7<|qz 6 10<|qe) .ret) <| rs 18 (qb 2 7<|qc 41<|qv 17<|qe) <| cd 17 (rs 20 (q1 (.build z_4 [])<|qt 4 7 0<|qS 5 7<|qz 6 11<|qe) .ret) <| rs 22 (qr 2 3<|qk .eql 1099511627776<|qv 21<|qe) <| cd 21 (rs 25 (q1 (.build z_4 [])<|qt 4 7 0<|qS 5 7<|qz 6 6<|qe) .ret) .skip)) <| rs 26 (qr 2 3<|qk .add 1<|qf 2 3<|qs 2 1 3 2<|qe) <| rs 30 (qm 1<|qr 2 0<|q1 (.mks 1 1 [.int .i64 0] [(0,.l 2)])<|qf 2 5<|qs 2 1 4 0<|qf 2 6<|qs 2 1 6 3<|qe) <| rt 36 (qb 2 7<|qc 71<|qb 2 7<|qc 72<|qt 4 7 1<|qw 5<|qz 6 0<|qe) .ret
def F47 : F := mF 2 [.cell 4 (some 7),.t 5,.t 6] none c47
attribute [go_sem] c47 F47
def c60 : C := rs 0 (qF 2<|qe) <| rs 3 (qm 0<|qk .geq 1<|ya<|qm 0<|qk .leq 1099511627776<|za 2<|qv 2<|qe) .ret
def F60 : F := mF 1 [.t 2] none c60
attribute [go_sem] c60 F60
def l61_1 : C := .loop [] [] [] [] (lq 26 (qm 4<|qm 3<|qQ .lss 0<|qe) 28 2 <| sq (bk 3 (rt 31 (qm 0<|qm 4<|qi 1<|qj<|qm 0<|qm 3<|qi 1<|qj<|qQ .eql 3<|qe) <| cd 39 (rs 0 (qF 2<|qe) .ret) .skip)) <| r1 29 (qm 4<|qk .add 1<|qv 4<|qe))
def l61_0 : C := .loop [] [] [] [] (lq 8 (qm 3<|qm 0<|qh false<|qQ .lss 0<|qe) 11 0 <| sq (bk 1 (i1 14 (qm 0<|qm 3<|qi 1<|qj<|qk .lss 1<|yo<|qm 0<|qm 3<|qi 1<|qj<|qk .gtr 255<|zO 5<|qe) 25 (rs 0 (qF 2<|qe) .ret) <| rs 0 (qz 4 0<|qe) <| bk 2 l61_1)) <| r1 12 (qm 3<|qk .add 1<|qv 3<|qe))
def c61 : C := rs 0 (qF 2<|qe) <| i1 5 (qm 0<|qh false<|qK .gtr 8<|qe) 7 (rs 0 (qF 2<|qe) .ret) <| sq (rs 0 (qz 3 0<|qe) <| bk 0 l61_0) <| rs 0 (qT 2<|qe) .ret
def F61 : F := mF 1 [.t 2] none c61
attribute [go_sem] c61 F61
def l62_0 : C := .loop [] [] [] [] (lq 6 (qm 5<|qm 0<|qh false<|qQ .lss 0<|qe) 9 0 <| sq (bk 1 (rs 12 (qm 0<|qm 5<|qi 1<|qj<|qm 1<|qQ .eql 3<|qe) <| cd 17 (rs 0 (qT 4<|qe) .ret) .skip)) <| r1 10 (qm 5<|qk .add 1<|qv 5<|qe))
def c62 : C := rs 0 (qF 4<|qe) <| sq (rs 0 (qz 5 0<|qe) <| bk 0 l62_0) <| rs 0 (qF 4<|qe) .ret
def F62 : F := mF 2 [.t 4] none c62
attribute [go_sem] c62 F62
def c63 : C := rs 0 (qF 4<|qe) <| rs 5 (qm 0<|qm 1<|qq .geq 0<|ya<|qm 0<|qk .leq 1099511627776<|za 3<|qv 4<|qe) .ret
def F63 : F := mF 2 [.t 4] none c63
attribute [go_sem] c63 F63
def l64_0 : C := .loop [] [] [] [] (rs 8 (q3 (.bin .lss (.g 7) (.g 6))<|qe) <| sq (cd 8 .skip <| .exit 0) <| sq (bk 1 (rs 9 (qm 7<|q1 (.iad 1 (.g 5) (.g 7))<|qj<|qV 3 0<|qw 4<|qe) <| rs 12 (qm 4<|qk .lss 1<|yo<|qm 4<|qk .gtr 255<|zo 2<|yo<|qm 0<|qm 3<|q1 (.sl false 1 (.l 7) none (some (.l 8)))<|qm 4<|qd 65<|zO 6<|qe) <| cd 24 (rs 0 (qF 2<|qe) .ret) .skip)) <| r1 25 (q1 (.bin .add (.g 7) (ci 1))<|qv 7<|qe))
def c64 : C := rs 0 (qF 2<|qe) <| sq (rs 5 (q3 (.mov (.g 0))<|qH false<|q3 (.mov (ci 0))<|qe) <| bk 0 l64_0) <| rs 26 (qm 0<|qh false<|qk .leq 8<|qv 2<|qe) .ret
def F64 : F := mF 1 [.t 2] none c64
attribute [go_sem] c64 F64
def c65 : C := rs 0 (qF 4<|qe) <| rs 5 (qm 0<|qm 1<|qd 75<|qk .geq 0<|qv 4<|qe) .ret
def F65 : F := mF 2 [.t 4] none c65
attribute [go_sem] c65 F65
def c66 : C := rs 0 (qF 3<|qe) <| rs 4 (qf 1 2<|qj<|qm 0<|qd 65<|qn<|qv 3<|qe) .ret
def F66 : F := mF 2 [.t 3] none c66
attribute [go_sem] c66 F66
def c67 : C := rs 0 (qF 4<|qe) <| rs 5 (qm 0<|qm 1<|qd 76<|qk .geq 0<|qv 4<|qe) .ret
def F67 : F := mF 2 [.t 4] none c67
attribute [go_sem] c67 F67
def c68 : C := rs 0 (qB 1 0<|qF 2<|qe) <| rt 3 (qr 1 2<|qh false<|qk .gtr 0<|ya<|qr 1 2<|q1 (.iad 1 (.l 6) (ci 0))<|qj<|qr 1 0<|qq .eql 8<|za 4<|qv 2<|qe) .ret
def F68 : F := mF 1 [.t 2] none c68
attribute [go_sem] c68 F68
def l70_0 : C := .loop [] [] [] [] (lq 11 (qm 5<|qm 0<|qh false<|qQ .lss 0<|qe) 14 0 <| sq (bk 1 (rt 17 (qm 0<|qm 5<|qi 1<|qj<|qm 1<|qm 5<|qi 1<|qj<|qQ .neq 3<|qe) <| cd 25 (rs 0 (qF 4<|qe) .ret) .skip)) <| r1 15 (qm 5<|qk .add 1<|qv 5<|qe))
def c70 : C := rs 0 (qF 4<|qe) <| i1 6 (qm 0<|qh false<|qm 1<|qh false<|qQ .neq 1<|qe) 10 (rs 0 (qF 4<|qe) .ret) <| sq (rs 0 (qz 5 0<|qe) <| bk 0 l70_0) <| rs 0 (qT 4<|qe) .ret
def F70 : F := mF 2 [.t 4] none c70
attribute [go_sem] c70 F70
def c71 : C := rs 0 (qB 1 0<|qG 2 z_4<|qe) <| i1 3 (qr 1 6<|qh false<|qr 1 2<|qh false<|qQ .eql 2<|qe) 9 (r1 10 (qr 1 5<|qf 1 4<|qs 1 1 2 1<|qe)) <| rs 13 (qb 1 7<|qt 2 7 0<|qe) .ret
def F71 : F := mF 1 [.cell 2 (some 7)] none c71
attribute [go_sem] c71 F71
def l72_0 : C := .loop [] [] [] [] (rs 10 (q3 (.bin .lss (.g 9) (.g 8))<|qe) <| sq (cd 10 .skip <| .exit 0) <| sq (bk 1 (rs 11 (q1 (.iad 1 (.g 7) (.g 9))<|qj<|qv 5<|qe) <| rs 13 (qr 1 6<|qm 5<|qd 65<|qN<|qe) <| cd 17 (r2 18 (qm 3<|qr 1 0<|qm 5<|qr 1 1<|qr 1 3<|qr 1 2<|qc 69<|qr 1 5<|q1 (.build z_5 [(0,1,.c (.int .i64 1)),(1,1,.l 2),(2,1,.l 3),(3,1,.l 5),(4,1,.l 7),(5,1,.l 10),(6,1,.l 12)])<|q1 (.mks 7 1 z_5 [(0,.l 13)])<|q1 (.app 3 7 (.l 0) (.l 14))<|qv 3<|qe)) .skip)) <| r1 34 (q1 (.bin .add (.g 9) (ci 1))<|qv 9<|qe))
def c72 : C := rs 0 (qB 1 0<|qS 2 7<|qe) <| rs 3 (q3 (.mko 7)<|qe) <| sq (rs 6 (qf 1 2<|q3 (.load (.v 1) none (.l 0))<|qH false<|q3 (.mov (ci 0))<|qe) <| bk 0 l72_0) <| rs 35 (qm 3<|qv 2<|qe) .ret
def F72 : F := mF 1 [.t 2] none c72
attribute [go_sem] c72 F72
def l75_0 : C := .loop [] [] [] [] (rs 9 (q3 (.bin .lss (.g 8) (.g 7))<|qe) <| sq (cd 9 .skip <| .exit 0) <| sq (bk 1 (rs 10 (qm 8<|qv 5<|qe) <| rs 11 (qm 1<|qm 0<|qm 5<|qi 1<|qj<|qQ .eql 0<|qe) <| cd 16 (rs 17 (qm 5<|qv 4<|qe) .ret) .skip)) <| r1 18 (q1 (.bin .add (.g 8) (ci 1))<|qv 8<|qe))
def c75 : C := rs 0 (qz 4 0<|qe) <| sq (rs 6 (qm 0<|qH false<|q3 (.mov (ci 0))<|qe) <| bk 0 l75_0) <| rs 0 (qz 4 (-1)<|qe) .ret
def F75 : F := mF 2 [.t 4] none c75
attribute [go_sem] c75 F75
def l76_0 : C := .loop [] [] [] [] (rs 9 (q3 (.bin .lss (.g 8) (.g 7))<|qe) <| sq (cd 9 .skip <| .exit 0) <| sq (bk 1 (rs 10 (qm 8<|qv 5<|qe) <| rs 11 (qm 1<|qm 0<|qm 5<|qi 1<|qj<|q3 (.call (.v (.l 0)) .no none [.l 4])<|qe) <| cd 16 (rs 17 (qm 5<|qv 4<|qe) .ret) .skip)) <| r1 18 (q1 (.bin .add (.g 8) (ci 1))<|qv 8<|qe))
def c76 : C := rs 0 (qz 4 0<|qe) <| sq (rs 6 (qm 0<|qH false<|q3 (.mov (ci 0))<|qe) <| bk 0 l76_0) <| rs 0 (qz 4 (-1)<|qe) .ret
def F76 : F := mF 2 [.t 4] none c76
attribute [go_sem] c76 F76
def c200 : C := rs 0 (qB 5 2<|qS 6 2<|qz 7 0<|qe) <| i1 14 (qm 0<|qc 203<|qn<|yo<|qm 1<|qc 170<|qn<|zO 3<|qe) 21 (rs 0 (qS 6 2<|qz 7 1<|qe) .ret) <| rs 23 (qm 0<|qm 1<|qd 220<|q2 22 (.mov (.l 2))<|qx 0<|qy 1<|qw 8<|qw 9<|qe) <| rs 0 (qS 10 5<|qe) <| i1 28 (q3 (.mov (.g 9))<|qe) 28 (r1 29 (qm 0<|qm 8<|qi 2<|qg 1<|qj<|qv 10<|qe)) <| rs 35 (qm 10<|qb 5 5<|qd 3<|q2 34 (.mov (.l 2))<|qx 0<|qy 1<|qw 11<|qw 12<|qe) <| sq (bk 0 (rs 41 (qm 12<|qk .neq 0<|qv 40<|qe) <| cd 40 (rs 43 (qm 12<|qS 6 2<|qw 7<|qe) .ret) <| rs 45 (qm 9<|qn<|ya<|qm 0<|qh false<|qk .eql 64<|za 2<|qv 44<|qe) <| cd 44 (rs 0 (qS 6 2<|qz 7 6<|qe) .ret) .skip)) <| rs 52 (qm 0<|q1 (.call (.k 221) .no (some 0) [.l 0])<|qv 13<|qe) <| i1 54 (qm 9<|qN<|qe) 55 (r1 56 (qm 13<|qm 8<|qm 1<|q1 (.build z_6 [(0,1,.l 2)])<|q1 (.mks 2 1 z_6 [(0,.l 3)])<|q1 (.ins 222 53 2 (.l 0) (.l 1) (.l 4))<|qv 13<|qe)) <| rs 62 (qm 13<|qm 8<|qm 11<|q1 (.iad 2 (.l 0) (.l 1))<|qg 1<|q5 (.store (.e 53) 1 (.l 4) (.l 2))<|qe) <| rs 67 (qm 13<|qv 6<|qz 7 0<|qe) .ret
def F200 : F := mF 3 [.t 6,.t 7] none c200
attribute [go_sem] c200 F200
def l203_0 : C := .loop [] [] [4] [] (rs 8 (q3 (.bin .lss (.g 7) (.g 6))<|qe) <| sq (cd 8 .skip <| .exit 0) <| sq (bk 1 (rs 9 (qm 7<|q1 (.iad 2 (.g 5) (.g 7))<|qJ 2<|qG 4 z_6<|qV 3 0<|qs 4 2 3 2<|qe) <| rt 12 (qr 4 0<|qc 170<|qn<|yo<|qr 4 1<|qc 7<|qn<|zo 4<|yo<|qr 4 1<|qh false<|qk .eql 0<|zo 10<|yo<|qm 3<|qk .gtr 0<|ya<|qm 0<|qm 3<|qk .sub 1<|q1 (.iad 2 (.l 20) (.l 22))<|qg 0<|qj<|qr 4 0<|qC 192 (ls [25,27])<|qk .geq 0<|y0 16<|qa 19<|zO 16<|qe) <| cd 43 (rs 0 (qF 2<|qe) .ret) .skip)) <| r1 44 (q1 (.bin .add (.g 7) (ci 1))<|qv 7<|qe))
def c203 : C := rs 0 (qF 2<|qe) <| sq (rs 5 (q3 (.mov (.g 0))<|qH false<|q3 (.mov (ci 0))<|qe) <| bk 0 l203_0) <| rs 45 (qm 0<|qh false<|qk .leq 64<|qv 2<|qe) .ret
def F203 : F := mF 1 [.t 2] none c203
attribute [go_sem] c203 F203
def l204_0 : C := .loop [] [] [] [] (lq 7 (qm 3<|qm 0<|qh false<|qQ .lss 0<|qe) 10 0 <| sq (bk 1 (i1 13 (qm 0<|qm 3<|qi 2<|qg 0<|qj<|qc 168<|qn<|yo<|qm 0<|qm 3<|qi 2<|qg 1<|qj<|qh false<|qk .eql 0<|zo 7<|yo<|qm 0<|qm 3<|qi 2<|qg 1<|qj<|qc 4<|qn<|zO 16<|qe) 37 (rs 0 (qF 2<|qe) .ret) <| rt 38 (qm 3<|qk .gtr 0<|ya<|qm 0<|qm 3<|qk .sub 1<|q1 (.iad 2 (.l 3) (.l 5))<|qg 0<|qj<|qm 0<|qm 3<|qi 2<|qg 0<|qj<|qC 187 (ls [8,13])<|qk .neq (-1)<|zA 2<|qe) <| cd 54 (rs 0 (qF 2<|qe) .ret) .skip)) <| r1 11 (qm 3<|qk .add 1<|qv 3<|qe))
def c204 : C := rs 0 (qF 2<|qe) <| i1 4 (qm 0<|qh false<|qK .gtr 64<|qe) 6 (rs 0 (qF 2<|qe) .ret) <| sq (rs 0 (qz 3 0<|qe) <| bk 0 l204_0) <| rs 0 (qT 2<|qe) .ret
def F204 : F := mF 1 [.t 2] none c204
attribute [go_sem] c204 F204
def c220 : C := rs 0 (qz 4 0<|qF 5<|qe) <| rs 6 (qm 0<|qm 1<|qC 225 [.l 0,.l 1,.f 226]<|qx 0<|qy 1<|qw 4<|qw 5<|qe) .ret
def F220 : F := mF 2 [.t 4,.t 5] none c220
attribute [go_sem] c220 F220
def l221_0 : C := .loop [] [] [] [] (rs 10 (q3 (.bin .lss (.g 9) (.g 8))<|qe) <| sq (cd 10 .skip <| .exit 0) <| sq (bk 1 (rs 11 (qm 9<|qv 4<|qe) <| r1 12 (qm 3<|qm 4<|qm 3<|qm 4<|qi 2<|qg 1<|q1 (.load (.e 6) none (.l 5))<|qc 23<|q1 (.iad 2 (.l 0) (.l 1))<|qg 1<|q5 (.store (.e 6) 1 (.l 9) (.l 7))<|qe))) <| r1 22 (q1 (.bin .add (.g 9) (ci 1))<|qv 9<|qe))
def c221 : C := rs 0 (qS 2 2<|qe) <| rs 5 (qm 0<|q1 (.call (.k 227) .no (some 0) [.l 0])<|qv 3<|qe) <| sq (rs 7 (qm 3<|qH false<|q3 (.mov (ci 0))<|qe) <| bk 0 l221_0) <| rs 23 (qm 3<|qv 2<|qe) .ret
def F221 : F := mF 1 [.t 2] (some 0) c221
attribute [go_sem] c221 F221
def l225_0 : C := .loop [] [] [] [] (lq 15 (qm 9<|qm 10<|qQ .lss 0<|qe) 17 0 <| bk 1 (rs 18 (qm 9<|qm 10<|qq .add 0<|q1 (.conv (.int .u64) (.l 2))<|q1 (.sh .shr (.l 3) (.c (.int .u64 1)))<|q1 (.conv (.int .i64) (.l 4))<|qv 11<|qe) <| rs 24 (qm 2<|qm 0<|qm 11<|qi 2<|qJ 2<|qm 1<|q1 (.call (.v (.l 0)) .no none [.l 4,.l 5])<|qK .lss 0<|qe) <| cd 31 (r1 32 (qm 11<|qk .add 1<|qv 9<|qe)) <| r1 34 (qm 11<|qv 10<|qe)))
def c225 : C := rs 0 (qz 6 0<|qF 7<|qe) <| rs 12 (qm 0<|qh false<|qv 8<|qe) <| rs 14 (qm 8<|qz 9 0<|qw 10<|qe) <| sq (bk 0 l225_0) <| rs 35 (qm 9<|qm 9<|qm 8<|qq .lss 1<|ya<|qm 2<|qm 0<|qm 9<|qi 2<|qJ 2<|qm 1<|q1 (.call (.v (.l 5)) .no none [.l 9,.l 10])<|qk .eql 0<|za 4<|qV 6 0<|qw 7<|qe) .ret
def F225 : F := mF 3 [.t 6,.t 7] none c225
attribute [go_sem] c225 F225
def c240 : C := rs 0 (qB 6 0<|qB 9 3<|qB 10 4<|qG 12 z_7<|qG 13 z_8<|qe) <| i1 16 (qb 6 5<|qc 249<|qn<|yo<|qm 1<|qm 2<|q1 (.mks 1 2 [.int .i64 0] [(0,.l 4),(1,.l 5)])<|qC 284 [ci 1,.l 6]<|qn<|zo 3<|yo<|qm 5<|q1 (.mks 1 1 [.int .i64 0] [(0,.l 11)])<|qC 284 [ci 0,.l 12]<|qn<|zo 10<|yo<|qb 10 3<|qc 28<|qn<|zo 16<|yo<|qb 9 12<|qc 285<|qn<|zO 21<|qe) 41 (rt 42 (qb 6 5<|qC 286 [ci 1]<|qt 12 5 0<|qt 13 9 1<|qe) .ret) <| rs 44 (qb 6 5<|qm 1<|qd 287<|qG 14 z_9<|qs 14 17 3 2<|qe) <| rs 47 (qr 9 3<|q1 (.bin .eql (.l 1) (.c (.str [])))<|ya<|qf 14 2<|qg 0<|ql 14<|q1 (.bin .eql (.l 6) (.c (.str [])))<|za 3<|yo<|qR 14 2 2<|qr 9 3<|qC 171 (ls [11,13])<|zo 9<|qv 15<|qe) <| sq (bk 0 (rs 64 (qr 14 0<|qk .eql 0<|yo<|qr 14 1<|qm 2<|qq .neq 5<|zo 3<|yo<|qm 15<|qn<|zo 9<|qv 63<|qe) <| cd 63 (rt 77 (qb 6 5<|qC 286 [ci 10]<|qt 12 5 0<|qt 13 9 1<|qe) .ret) <| rs 80 (qr 14 4<|qk .neq 1<|yo<|qb 9 12<|qc 288<|ya<|qr 14 13<|qk .neq 0<|y0 3<|qa 6<|zo 3<|qv 79<|qe) <| cd 79 (rt 92 (qb 6 5<|qC 286 [ci 11]<|qt 12 5 0<|qt 13 9 1<|qe) .ret) <| rs 95 (qb 9 12<|qc 288<|qv 94<|qe) <| cd 94 (rs 97 (qb 6 5<|qb 14 17<|qb 9 12<|qb 10 3<|qC 289 (ls [0,1,2,3])<|qx 0<|qy 1<|qt 12 5 5<|qt 13 9 6<|qe) .ret) <| rs 105 (qr 9 2<|qk .eql 4<|qv 104<|qe) <| cd 104 (rt 108 (qb 6 5<|qb 6 5<|qb 14 17<|qr 9 3<|qC 290 (ls [1,2,4])<|qt 12 5 0<|qt 13 9 5<|qe) .ret) .skip)) <| rs 114 (qb 6 5<|qb 14 17<|qb 9 12<|qm 5<|qC 291 (ls [0,1,2,3])<|qx 0<|qy 1<|qt 12 5 5<|qt 13 9 6<|qe) .ret
def F240 : F := mF 6 [.cell 12 (some 5),.cell 13 (some 9)] none c240
attribute [go_sem] c240 F240
def c244 : C := rs 0 (qB 1 0<|qF 2<|qe) <| i1 3 (qr 1 0<|qr 1 1<|q1 (.mks 1 2 [.int .i64 0] [(0,.l 1),(1,.l 3)])<|qC 284 [ci 1,.l 4]<|qn<|yo<|qr 1 13<|qr 1 14<|qr 1 15<|qr 1 16<|q1 (.mks 1 4 [.int .i64 0] [(0,.l 9),(1,.l 11),(2,.l 13),(3,.l 15)])<|qC 284 [ci 0,.l 16]<|qn<|zo 7<|yo<|qr 1 4<|qk .lss 1<|zo 20<|yo<|qr 1 4<|qk .gtr 3<|zO 25<|qe) 32 (rs 0 (qF 2<|qe) .ret) <| i1 33 (qR 1 2 2<|qc 186<|qn<|yo<|qr 1 5<|qc 203<|qn<|zo 4<|yo<|qR 1 6 3<|qc 28<|qn<|zo 10<|yo<|qR 1 9 3<|qc 28<|qn<|zo 16<|yo<|qr 1 12<|qc 81<|qn<|zO 22<|qe) 60 (rs 0 (qF 2<|qe) .ret) <| rs 61 (qr 1 5<|q1 (.fn 298 [.g 1] [1])<|qd 299<|qn<|qv 2<|qe) .ret
def F244 : F := mF 1 [.t 2] none c244
attribute [go_sem] c244 F244
def l245_0 : C := .loop [] [] [] [] (lq 81 (qm 3<|qr 1 5<|qh false<|qQ .lss 0<|qe) 85 0 <| sq (bk 1 (rt 88 (qR 1 2 2<|qr 1 5<|qm 3<|qi 2<|qg 0<|qj<|qC 142 (ls [1,7])<|qN<|qe) <| cd 97 (rs 0 (qF 2<|qe) .ret) .skip)) <| r1 86 (qm 3<|qk .add 1<|qv 3<|qe))
def r245_10 : List Op := (qT 2<|qe) 0 0 none
def c245 : C := rs 0 (qB 1 0<|qF 2<|qe) <| i1 4 (qr 1 0<|qc 292<|qn<|yo<|qr 1 1<|qc 292<|qn<|zo 4<|yo<|qr 1 13<|qc 293<|qn<|zo 10<|yo<|qr 1 14<|qc 293<|qn<|zo 16<|yo<|qr 1 15<|qc 293<|qn<|zo 22<|yo<|qr 1 16<|qc 293<|qn<|zO 28<|qe) 37 (rs 0 (qF 2<|qe) .ret) <| i1 38 (qr 1 4<|qk .neq 1<|ya<|qr 1 4<|qk .neq 2<|za 3<|ya<|qr 1 4<|qk .neq 3<|za 8<|yo<|qR 1 2 2<|qc 167<|qn<|zo 13<|yo<|qr 1 5<|qc 204<|qn<|zo 19<|yo<|qR 1 6 3<|qc 24<|qn<|zo 25<|yo<|qR 1 9 3<|qc 24<|qn<|zo 31<|yo<|qr 1 12<|qc 80<|qn<|zO 37<|qe) 80 (rs 0 (qF 2<|qe) .ret) <| sq (rs 0 (qz 3 0<|qe) <| bk 0 l245_0) <| sq (.region false r245_10) .ret
def F245 : F := mF 1 [.t 2] none c245
attribute [go_sem] r245_10 c245 F245
def l246_0 : C := .loop [] [] [] [] (lq 20 (qm 3<|qr 1 0<|qh false<|qQ .lss 0<|qe) 24 0 <| sq (bk 1 (rt 27 (qr 1 0<|qm 3<|qi 17<|qJ 17<|qc 245<|qn<|yo<|qr 1 0<|qm 3<|qi 17<|qJ 17<|qR 1 1 3<|qC 300 (ls [12,14])<|qn<|zo 7<|yo<|qm 3<|qk .gtr 0<|ya<|qr 1 0<|qm 3<|qk .sub 1<|q1 (.iad 17 (.l 23) (.l 25))<|qg 0<|qj<|qr 1 0<|qm 3<|qi 17<|qg 0<|qj<|qq .geq 28<|y0 18<|qa 21<|zO 18<|qe) <| cd 64 (rs 0 (qF 2<|qe) .ret) .skip)) <| r1 25 (qm 3<|qk .add 1<|qv 3<|qe))
def c246 : C := rs 0 (qB 1 0<|qF 2<|qe) <| i1 4 (qr 1 0<|qh false<|qk .gtr 8<|yo<|qR 1 1 3<|qc 24<|qn<|zo 4<|yo<|qr 1 4<|qc 293<|qn<|zO 10<|qe) 19 (rs 0 (qF 2<|qe) .ret) <| sq (rs 0 (qz 3 0<|qe) <| bk 0 l246_0) <| rs 0 (qT 2<|qe) .ret
def F246 : F := mF 1 [.t 2] none c246
attribute [go_sem] c246 F246
def l249_0 : C := .loop [] [] [5] [] (rs 10 (q3 (.bin .lss (.g 9) (.g 8))<|qe) <| sq (cd 10 .skip <| .exit 0) <| sq (bk 1 (rs 11 (q1 (.iad 17 (.g 7) (.g 9))<|qJ 17<|qG 5 z_9<|qs 5 17 2 1<|qe) <| i1 13 (qr 5 0<|qm 3<|qq .leq 1<|yo<|qb 5 17<|qc 244<|qn<|zo 4<|yo<|qb 5 17<|qR 1 1 3<|qC 301 (ls [10,12])<|qn<|zO 9<|qe) 28 (rs 0 (qF 2<|qe) .ret) <| r1 29 (qr 5 0<|qv 3<|qe))) <| r1 31 (q1 (.bin .add (.g 9) (ci 1))<|qv 9<|qe))
def c249 : C := rs 0 (qB 1 0<|qF 2<|qe) <| rs 0 (qz 3 0<|qe) <| sq (rs 6 (qf 1 0<|q3 (.load (.v 1) none (.l 0))<|qH false<|q3 (.mov (ci 0))<|qe) <| bk 0 l249_0) <| rs 32 (qr 1 0<|qh false<|qk .leq 8<|ya<|qR 1 1 3<|qc 28<|za 4<|ya<|qr 1 4<|q1 (.mks 1 1 [.int .i64 0] [(0,.l 11)])<|qC 284 [ci 0,.l 12]<|za 9<|qv 2<|qe) .ret
def F249 : F := mF 1 [.t 2] none c249
attribute [go_sem] c249 F249
def c284 : C := rs 0 (qB 2 0<|qF 4<|qe) <| rs 5 (qm 1<|q1 (.fn 313 [.g 2] [2])<|qd 67<|qn<|qv 4<|qe) .ret
def F284 : F := mF 2 [.t 4] none c284
attribute [go_sem] c284 F284
def c285 : C := rs 0 (qB 1 0<|qF 2<|qe) <| i1 3 (qr 1 0<|qr 1 1<|q1 (.mks 1 2 [.int .i64 0] [(0,.l 1),(1,.l 3)])<|qC 284 [ci 1,.l 4]<|qn<|yo<|qr 1 2<|qk .lss 1<|zo 7<|yo<|qr 1 2<|qk .gtr 6<|zo 12<|yo<|qr 1 4<|qh true<|qk .gtr 16<|zo 17<|yo<|qr 1 6<|qh true<|qk .gtr 16<|zo 23<|yo<|qr 1 11<|qk .lss 0<|zo 29<|yo<|qr 1 11<|qk .gtr 8<|zo 34<|yo<|qR 1 7 3<|qc 28<|qn<|zo 39<|yo<|qr 1 10<|q1 (.bin .neq (.l 47) (.c (.str [])))<|ya<|qr 1 10<|qc 170<|qn<|y0 45<|qa 49<|zO 45<|qe) 58 (rs 0 (qF 2<|qe) .ret) <| i1 59 (qr 1 2<|qK .eql 6<|qe) 61 (rs 62 (qr 1 3<|q1 (.bin .eql (.l 1) (.c (.str [])))<|yo<|qr 1 3<|qc 170<|zo 3<|ya<|qr 1 11<|qk .geq 1<|za 8<|qv 2<|qe) .ret) <| rs 75 (qr 1 3<|qc 170<|qv 2<|qe) .ret
def F285 : F := mF 1 [.t 2] none c285
attribute [go_sem] c285 F285
def c287 : C := rs 0 (qB 2 0<|qG 4 z_9<|qe) <| sq (rs 8 (qb 2 5<|qm 1<|qd 314<|q2 7 (.mov (.l 2))<|qx 0<|qy 1<|qw 5<|qw 6<|qe) <| rs 13 (q3 (.mov (.g 6))<|qe) <| cd 13 (rs 14 (qr 2 0<|qm 5<|qi 17<|qJ 17<|qt 4 17 4<|qe) .ret) .skip) <| rs 19 (q1 (.build z_9 [])<|qt 4 17 0<|qe) .ret
def F287 : F := mF 2 [.cell 4 (some 17)] none c287
attribute [go_sem] c287 F287
def c288 : C := rs 0 (qB 1 0<|qF 2<|qe) <| rs 3 (qr 1 2<|qk .eql 1<|yo<|qr 1 2<|qk .eql 2<|zo 3<|yo<|qr 1 2<|qk .eql 3<|zo 8<|qv 2<|qe) .ret
def F288 : F := mF 1 [.t 2] none c288
attribute [go_sem] c288 F288
def c289 : C := rs 0 (qB 4 0<|qB 5 1<|qB 6 2<|qB 7 3<|qG 8 z_7<|qG 9 z_8<|qe) <| sq (rs 15 (qr 5 12<|qr 6 0<|qr 6 1<|q3 (.call (.k 82) .no none [.l 1,.l 3,.l 5])<|qe) <| bk 0 (rs 23 (q1 (.bin .eql (.g 21) (ci 2))<|qv 22<|qe) <| cd 22 (rs 25 (qr 5 12<|qr 6 0<|qC 84 (ls [1,3])<|q2 24 (.mov (.l 4))<|qx 0<|qy 1<|qG 10 z_3<|qs 10 11 8 6<|qD 11<|q1 (.mov (.l 7))<|qe) <| rt 32 (qb 4 5<|qR 10 2 9<|qt 8 5 0<|qt 9 9 2<|qe) .ret) <| rs 36 (q1 (.bin .eql (.g 21) (ci 3))<|qv 35<|qe) <| cd 35 (rt 37 (qb 4 5<|qC 286 [ci 10]<|qt 8 5 0<|qt 9 9 1<|qe) .ret) .skip)) <| i1 39 (qb 7 3<|qR 4 1 3<|qC 15 (ls [0,2])<|qK .leq 0<|qe) 43 (rt 44 (qb 4 5<|qC 286 [ci 1]<|qt 8 5 0<|qt 9 9 1<|qe) .ret) <| rs 46 (qb 4 5<|qb 5 17<|qr 6 3<|qC 290 (ls [0,1,3])<|qG 12 z_8<|qs 12 9 5 4<|qe) <| rs 51 (qb 7 3<|qr 12 4<|q1 (.build z_8 [(1,3,.l 0),(4,1,.l 2)])<|qG 13 z_8<|qs 13 9 4 3<|qe) <| rs 0 (qz 14 0<|qe) <| sq (bk 1 (rs 56 (qr 6 2<|qk .eql 3<|ya<|qr 12 4<|qr 6 5<|q1 (.eqb true (.l 5) (.l 7))<|yo<|qr 12 4<|ya<|qr 12 5<|qr 6 6<|qq .neq 14<|y0 9<|qa 12<|y1 3<|qo 9<|za 3<|qv 55<|qe) <| cd 55 (r2 77 (qr 12 5<|qf 13 0<|qu 13 2 15<|qf 13 5<|qs 13 1 4 1<|qe)) <| rs 82 (qr 6 2<|qk .neq 2<|qv 81<|qe) <| cd 81 (r1 86 (qr 5 5<|qr 6 3<|qb 7 3<|qr 6 4<|q1 (.build z_2 [(0,3,.l 4),(4,1,.l 6)])<|qC 200 (ls [1,3,7])<|q2 85 (.mov (.l 8))<|qx 0<|qy 1<|qf 5 5<|qs 5 1 12 10<|qV 14 11<|qe)) <| rs 99 (qr 12 4<|qv 98<|qe) <| cd 98 (r1 102 (qr 5 5<|qr 6 3<|qb 7 3<|q1 (.build z_2 [(0,3,.l 4),(3,1,.c (.bool true))])<|qC 200 (ls [1,3,5])<|q2 101 (.mov (.l 6))<|qx 0<|qy 1<|qf 5 5<|qs 5 1 10 8<|qV 14 9<|qe)) .skip)) <| i1 112 (qm 14<|qK .neq 0<|qe) 113 (rt 114 (qb 4 5<|qm 14<|qc 286<|qt 8 5 0<|qt 9 9 2<|qe) .ret) <| sq (rs 118 (qr 5 12<|qr 6 0<|qr 6 1<|qb 13 9<|q1 (.build z_3 [(0,1,.l 3),(1,1,.l 5),(2,9,.l 6)])<|qC 88 (ls [1,7])<|q2 117 (.mov (.l 8))<|qx 0<|qy 1<|qf 5 12<|qs 5 1 12 10<|qV 14 11<|qe) <| rs 130 (qm 14<|qK .neq 0<|qe) <| cd 131 (rt 132 (qb 4 5<|qm 14<|qc 286<|qt 8 5 0<|qt 9 9 2<|qe) .ret) .skip) <| rs 135 (qb 4 5<|qb 5 17<|qd 304<|qt 4 5 2<|qe) <| rs 138 (qb 7 3<|qf 4 1<|qs 4 3 1 0<|qe) <| rt 140 (qb 4 5<|qb 13 9<|qt 8 5 0<|qt 9 9 1<|qe) .ret
def F289 : F := mF 4 [.cell 8 (some 5),.cell 9 (some 9)] none c289
attribute [go_sem] c289 F289
def c290 : C := rs 0 (qB 3 0<|qB 4 1<|qG 6 z_8<|qe) <| rs 10 (qr 4 5<|qm 2<|qR 3 1 3<|qC 312 (ls [1,2,4])<|q2 9 (.mov (.l 5))<|qx 0<|qy 1<|qG 7 z_2<|qs 7 5 9 7<|qV 8 8<|qe) <| rs 18 (qR 7 0 3<|qm 8<|ya<|qr 7 3<|qn<|za 3<|qr 7 4<|q1 (.build z_8 [(1,3,.l 1),(4,1,.l 7),(5,1,.l 9)])<|qt 6 9 10<|qe) .ret
def F290 : F := mF 3 [.cell 6 (some 9)] none c290
attribute [go_sem] c290 F290
def c292 : C := rs 0 (qF 2<|qe) <| rs 3 (qm 0<|qk .gtr 0<|ya<|qm 0<|qk .leq 1099511627776<|za 2<|qv 2<|qe) .ret
def F292 : F := mF 1 [.t 2] none c292
attribute [go_sem] c292 F292
def c293 : C := rs 0 (qF 2<|qe) <| rs 3 (qm 0<|qk .eql 0<|yo<|qm 0<|qc 292<|zo 2<|qv 2<|qe) .ret
def F293 : F := mF 1 [.t 2] none c293
attribute [go_sem] c293 F293
def c298 : C := rs 0 (qB 2 0<|qF 3<|qe) <| rs 4 (qf 1 2<|qJ 2<|qr 2 0<|qC 171 (ls [1,3])<|qn<|qv 3<|qe) .ret
def F298 : F := mF 2 [.t 3] none c298
attribute [go_sem] c298 F298
def c299 : C := rs 0 (qF 4<|qe) <| rs 5 (qm 0<|qm 1<|qd 315<|qk .geq 0<|qv 4<|qe) .ret
def F299 : F := mF 2 [.t 4] none c299
attribute [go_sem] c299 F299
def l300_1 : C := .loop [] [] [] [] (lq 14 (qm 6<|qr 2 5<|qm 5<|qi 2<|qg 1<|qj<|qh false<|qQ .lss 0<|qe) 22 2 <| sq (bk 3 (rt 25 (qb 3 3<|qr 2 5<|qm 5<|qi 2<|qg 1<|qj<|qm 6<|qi 5<|qg 0<|qJ 3<|q3 (.call (.k 6) .no none [.l 0,.l 10])<|qe) <| cd 36 (rs 0 (qF 4<|qe) .ret) .skip)) <| r1 23 (qm 6<|qk .add 1<|qv 6<|qe))
def l300_0 : C := .loop [] [] [] [] (lq 7 (qm 5<|qr 2 5<|qh false<|qQ .lss 0<|qe) 11 0 <| sq (bk 1 (rs 0 (qz 6 0<|qe) <| bk 2 l300_1)) <| r1 12 (qm 5<|qk .add 1<|qv 5<|qe))
def c300 : C := rs 0 (qB 2 0<|qB 3 1<|qF 4<|qe) <| sq (rs 0 (qz 5 0<|qe) <| bk 0 l300_0) <| rs 0 (qT 4<|qe) .ret
def F300 : F := mF 2 [.t 4] none c300
attribute [go_sem] c300 F300
def c301 : C := rs 0 (qB 2 0<|qB 3 1<|qF 4<|qe) <| rs 5 (qr 2 5<|q1 (.fn 316 [.g 3] [3])<|qd 299<|qn<|qv 4<|qe) .ret
def F301 : F := mF 2 [.t 4] none c301
attribute [go_sem] c301 F301
def c304 : C := rs 0 (qB 2 0<|qB 3 1<|qG 4 z_7<|qe) <| rs 8 (qb 2 5<|qr 3 0<|q1 (.call (.k 314) .borrow none [.l 0,.l 2])<|q2 7 (.mov (.l 3))<|qx 0<|qy 1<|qw 5<|qw 6<|qe) <| rs 14 (qr 2 0<|q1 (.call (.k 307) .freeze (some 0) [.l 1])<|qf 2 0<|qs 2 1 3 2<|qe) <| sq (rs 18 (q3 (.mov (.g 6))<|qe) <| cd 18 (r1 19 (qr 2 0<|qm 5<|qb 3 17<|q1 (.iad 17 (.l 1) (.l 2))<|q5 (.store (.e 16) 17 (.l 4) (.l 3))<|qe)) <| r1 24 (qr 2 0<|qm 5<|qb 3 17<|q1 (.mks 17 1 z_9 [(0,.l 3)])<|q1 (.ins 317 16 17 (.l 1) (.l 2) (.l 4))<|qf 2 0<|qs 2 1 6 5<|qe)) <| rs 31 (qb 2 5<|qt 4 5 0<|qe) .ret
def F304 : F := mF 2 [.cell 4 (some 5)] none c304
attribute [go_sem] c304 F304
def c312 : C := rs 0 (qB 5 2<|qG 6 z_2<|qF 7<|qe) <| i1 10 (qm 0<|qc 203<|qN<|qe) 12 (rs 13 (q1 (.build z_2 [])<|qt 6 5 0<|qF 7<|qe) .ret) <| rs 15 (qm 0<|qm 1<|qd 220<|q2 14 (.mov (.l 2))<|qx 0<|qy 1<|qw 8<|qw 9<|qe) <| i1 20 (qm 9<|qN<|qe) 21 (rs 22 (q1 (.build z_2 [])<|qt 6 5 0<|qF 7<|qe) .ret) <| rt 23 (qm 0<|qm 8<|qi 2<|qg 1<|qj<|qb 5 3<|qd 10<|qx 0<|qy 1<|qt 6 5 7<|qw 7<|qe) .ret
def F312 : F := mF 3 [.cell 6 (some 5),.t 7] none c312
attribute [go_sem] c312 F312
def c313 : C := rs 0 (qF 3<|qe) <| rs 4 (qm 0<|q1 (.load (.c) none (.g 1))<|qq .lss 0<|yo<|qm 0<|qk .gtr 1099511627776<|zo 3<|qv 3<|qe) .ret
def F313 : F := mF 2 [.t 3] none c313
attribute [go_sem] c313 F313
def c314 : C := rs 0 (qB 2 0<|qz 4 0<|qF 5<|qe) <| rs 6 (qr 2 0<|qm 1<|qC 319 [.l 1,.l 2,.f 320]<|qx 0<|qy 1<|qw 4<|qw 5<|qe) .ret
def F314 : F := mF 2 [.t 4,.t 5] none c314
attribute [go_sem] c314 F314
def l315_0 : C := .loop [] [] [] [] (rs 9 (q3 (.bin .lss (.g 8) (.g 7))<|qe) <| sq (cd 9 .skip <| .exit 0) <| sq (bk 1 (rs 10 (qm 8<|qv 5<|qe) <| rs 11 (qm 1<|qm 0<|qm 5<|qi 2<|qJ 2<|q3 (.call (.v (.l 0)) .no none [.l 4])<|qe) <| cd 16 (rs 17 (qm 5<|qv 4<|qe) .ret) .skip)) <| r1 18 (q1 (.bin .add (.g 8) (ci 1))<|qv 8<|qe))
def c315 : C := rs 0 (qz 4 0<|qe) <| sq (rs 6 (qm 0<|qH false<|q3 (.mov (ci 0))<|qe) <| bk 0 l315_0) <| rs 0 (qz 4 (-1)<|qe) .ret
def F315 : F := mF 2 [.t 4] none c315
attribute [go_sem] c315 F315
def c316 : C := rs 0 (qB 2 0<|qF 3<|qe) <| rt 4 (qr 2 1<|qr 2 1<|qh false<|qk .sub 1<|q1 (.iad 5 (.l 1) (.l 5))<|qg 0<|qJ 3<|q1 (.load (.c) (some 3) (.g 1))<|qd 15<|qk .gtr 0<|qv 3<|qe) .ret
def F316 : F := mF 2 [.t 3] none c316
attribute [go_sem] c316 F316
def l319_0 : C := .loop [] [] [] [] (lq 15 (qm 9<|qm 10<|qQ .lss 0<|qe) 17 0 <| bk 1 (rs 18 (qm 9<|qm 10<|qq .add 0<|q1 (.conv (.int .u64) (.l 2))<|q1 (.sh .shr (.l 3) (.c (.int .u64 1)))<|q1 (.conv (.int .i64) (.l 4))<|qv 11<|qe) <| rs 24 (qm 2<|qm 0<|qm 11<|qi 17<|qJ 17<|qm 1<|q1 (.call (.v (.l 0)) .no none [.l 4,.l 5])<|qK .lss 0<|qe) <| cd 31 (r1 32 (qm 11<|qk .add 1<|qv 9<|qe)) <| r1 34 (qm 11<|qv 10<|qe)))
def c319 : C := rs 0 (qz 6 0<|qF 7<|qe) <| rs 12 (qm 0<|qh false<|qv 8<|qe) <| rs 14 (qm 8<|qz 9 0<|qw 10<|qe) <| sq (bk 0 l319_0) <| rs 35 (qm 9<|qm 9<|qm 8<|qq .lss 1<|ya<|qm 2<|qm 0<|qm 9<|qi 17<|qJ 17<|qm 1<|q1 (.call (.v (.l 5)) .no none [.l 9,.l 10])<|qk .eql 0<|za 4<|qV 6 0<|qw 7<|qe) .ret
def F319 : F := mF 3 [.t 6,.t 7] none c319
attribute [go_sem] c319 F319
def c320 : C := rs 0 (qB 2 0<|qz 4 0<|qe) <| rs 5 (qr 2 0<|qm 1<|qq .sub 1<|qv 4<|qe) .ret
def F320 : F := mF 2 [.t 4] none c320
attribute [go_sem] c320 F320
def l114_0 : C := .loop [] [] [] [] (lq 7 (qm 3<|qm 0<|qh false<|qQ .lss 0<|qe) 10 0 <| sq (bk 1 (i1 13 (qm 0<|qm 3<|qi 5<|qg 0<|qj<|qk .lss 1<|yo<|qm 0<|qm 3<|qi 5<|qg 0<|qj<|qk .gtr 1099511627776<|zo 6<|yo<|qm 0<|qm 3<|qi 5<|qg 1<|qj<|qk .lss 1<|zo 14<|yo<|qm 0<|qm 3<|qi 5<|qg 1<|qj<|qk .gtr 20<|zo 22<|yo<|qm 0<|qm 3<|qi 5<|qg 2<|qJ 3<|qc 24<|qn<|zO 30<|qe) 51 (rs 0 (qF 2<|qe) .ret) <| rt 52 (qm 3<|qk .gtr 0<|ya<|qm 0<|qm 3<|qk .sub 1<|q1 (.iad 5 (.l 3) (.l 5))<|qg 0<|qj<|qm 0<|qm 3<|qi 5<|qg 0<|qj<|qq .geq 8<|zA 2<|qe) <| cd 67 (rs 0 (qF 2<|qe) .ret) .skip)) <| r1 11 (qm 3<|qk .add 1<|qv 3<|qe))
def c114 : C := rs 0 (qF 2<|qe) <| i1 4 (qm 0<|qh false<|qK .gtr 4<|qe) 6 (rs 0 (qF 2<|qe) .ret) <| sq (rs 0 (qz 3 0<|qe) <| bk 0 l114_0) <| rs 0 (qT 2<|qe) .ret
def F114 : F := mF 1 [.t 2] none c114
attribute [go_sem] c114 F114
def l116_0 : C := .loop [] [] [] [] (lq 11 (qm 5<|qm 0<|qh false<|qQ .lss 0<|qe) 14 0 <| sq (bk 1 (rt 17 (qm 0<|qm 5<|qi 5<|qJ 5<|qm 1<|qm 5<|qi 5<|qJ 5<|q3 (.eqa true [.i,.i,.i,.i,.i] (.l 3) (.l 7))<|qe) <| cd 25 (rs 0 (qF 4<|qe) .ret) .skip)) <| r1 15 (qm 5<|qk .add 1<|qv 5<|qe))
def c116 : C := rs 0 (qF 4<|qe) <| i1 6 (qm 0<|qh false<|qm 1<|qh false<|qQ .neq 1<|qe) 10 (rs 0 (qF 4<|qe) .ret) <| sq (rs 0 (qz 5 0<|qe) <| bk 0 l116_0) <| rs 0 (qT 4<|qe) .ret
def F116 : F := mF 2 [.t 4] none c116
attribute [go_sem] c116 F116
def l126_0 : C := .loop [] [] [5] [] (rs 9 (q3 (.bin .lss (.g 8) (.g 7))<|qe) <| sq (cd 9 .skip <| .exit 0) <| sq (bk 1 (rs 10 (q1 (.iad 5 (.g 6) (.g 8))<|qJ 5<|qG 5 z_10<|qs 5 5 2 1<|qe) <| i1 12 (qr 5 0<|qm 3<|qq .leq 1<|yo<|qr 5 0<|qk .gtr 1099511627776<|zo 4<|yo<|qr 5 1<|qk .lss 1<|zo 9<|yo<|qr 5 1<|qk .gtr 20<|zo 14<|yo<|qR 5 2 3<|qc 28<|qn<|zO 19<|qe) 36 (rs 0 (qF 2<|qe) .ret) <| r1 37 (qr 5 0<|qv 3<|qe))) <| r1 39 (q1 (.bin .add (.g 8) (ci 1))<|qv 8<|qe))
def c126 : C := rs 0 (qF 2<|qe) <| rs 0 (qz 3 0<|qe) <| sq (rs 6 (q3 (.mov (.g 0))<|qH false<|q3 (.mov (ci 0))<|qe) <| bk 0 l126_0) <| rs 40 (qm 0<|qh false<|qk .leq 4<|qv 2<|qe) .ret
def F126 : F := mF 1 [.t 2] none c126
attribute [go_sem] c126 F126
def l324_0 : C := .loop [] [] [5] [] (rs 25 (q3 (.bin .lss (.g 24) (.g 23))<|qe) <| sq (cd 25 .skip <| .exit 0) <| sq (bk 1 (rs 26 (q1 (.iad 3 (.g 22) (.g 24))<|qJ 3<|qG 5 z_11<|qs 5 3 2 1<|qe) <| r1 28 (qr 3 1<|qb 5 3<|q1 (.mks 3 1 z_11 [(0,.l 2)])<|q1 (.app 32 3 (.l 1) (.l 3))<|qf 3 1<|qs 3 1 5 4<|qe))) <| r1 34 (q1 (.bin .add (.g 24) (ci 1))<|qv 24<|qe))
def l324_1 : C := .loop [] [] [7] [] (rs 39 (q3 (.bin .lss (.g 38) (.g 37))<|qe) <| sq (cd 39 .skip <| .exit 2) <| sq (bk 3 (rs 40 (q1 (.iad 7 (.g 36) (.g 38))<|qJ 7<|qG 7 z_12<|qs 7 7 2 1<|qe) <| r1 42 (qr 3 28<|qb 7 7<|q1 (.mks 7 1 z_12 [(0,.l 2)])<|q1 (.app 46 7 (.l 1) (.l 3))<|qf 3 28<|qs 3 1 5 4<|qe))) <| r1 48 (q1 (.bin .add (.g 38) (ci 1))<|qv 38<|qe))
def c324 : C := rs 0 (qB 1 0<|qG 2 z_13<|qe) <| rs 8 (qr 1 0<|qr 1 2<|qr 1 3<|qr 1 4<|qR 1 5 3<|qR 1 8 20<|q1 (.build [.slice 5 [],.nslice 3,.int .i64 0,.slice 5 [],.slice 3 [],.int .i64 0,.int .i64 0,.int .i64 0,.int .i64 0,.int .i64 0,.int .i64 0,.int .i64 0,.int .i64 0,.int .i64 0,.int .i64 0,.int .i64 0,.str [],.slice 1 [],.int .i64 0,.int .i64 0,.int .i64 0,.str [],.str [],.slice 1 [],.int .i64 0,.int .i64 0,.int .i64 0,.slice 1 [],.nslice 7] [(0,1,.l 1),(2,1,.l 3),(3,1,.l 5),(4,1,.l 7),(5,3,.l 9),(8,20,.l 11)])<|qG 3 z_14<|qs 3 29 13 12<|qe) <| sq (rs 21 (qf 1 1<|q3 (.load (.v 1) none (.l 0))<|qH false<|q3 (.mov (ci 0))<|qe) <| bk 0 l324_0) <| sq (rs 35 (qf 1 28<|q3 (.load (.v 1) none (.l 0))<|qH false<|q3 (.mov (ci 0))<|qe) <| bk 2 l324_1) <| rs 49 (qb 3 29<|qt 2 29 0<|qe) .ret
def F324 : F := mF 1 [.cell 2 (some 29)] none c324
attribute [go_sem] c324 F324
def l328_0 : C := .loop [] [] [] [] (rs 58 (q3 (.bin .lss (.g 57) (ci 3))<|qe) <| sq (cd 58 .skip <| .exit 0) <| sq (bk 1 (rs 59 (qm 57<|qv 3<|qe) <| rs 60 (qr 1 1<|qm 3<|qi 3<|qg 0<|qj<|q1 (.mks 1 1 [.int .i64 0] [(0,.l 5)])<|qC 347 [ci 1,.l 6]<|qn<|yo<|qr 1 1<|qm 3<|qi 3<|qg 1<|qj<|qc 348<|qn<|zo 9<|yo<|qr 1 4<|qm 3<|qi 3<|qJ 3<|qc 28<|qn<|zO 19<|qe) <| cd 87 (rs 0 (qF 2<|qe) .ret) .skip)) <| r1 88 (q1 (.bin .add (.g 57) (ci 1))<|qv 57<|qe))
def l328_1 : C := .loop [] [] [6] [] (rs 93 (q3 (.bin .lss (.g 92) (.g 91))<|qe) <| sq (cd 93 .skip <| .exit 2) <| sq (bk 3 (rs 94 (q1 (.iad 7 (.g 90) (.g 92))<|qJ 7<|qG 6 z_12<|qs 6 7 2 1<|qe) <| i1 96 (qr 6 0<|qm 4<|qq .leq 1<|yo<|qr 6 0<|qk .gtr 8<|zo 4<|yo<|qr 6 1<|qr 6 2<|q1 (.mks 1 2 [.int .i64 0] [(0,.l 11),(1,.l 13)])<|qC 347 [ci 0,.l 14]<|qn<|zo 9<|yo<|qR 6 3 3<|qc 28<|qn<|zo 18<|yo<|qr 6 6<|qk .lss 0<|zo 24<|yo<|qr 6 6<|qk .gtr 16<|zO 29<|qe) 129 (rs 0 (qF 2<|qe) .ret) <| r1 130 (qr 6 0<|qv 4<|qe))) <| r1 132 (q1 (.bin .add (.g 92) (ci 1))<|qv 92<|qe))
def c328 : C := rs 0 (qB 1 0<|qF 2<|qe) <| i1 7 (qr 1 0<|qc 141<|qn<|yo<|qr 1 3<|qc 126<|qn<|zo 4<|yo<|qr 1 1<|qh false<|qk .neq 3<|zo 10<|yo<|qr 1 4<|qh false<|qk .neq 3<|zo 16<|yo<|qr 1 2<|qk .lss 2<|zo 22<|yo<|qr 1 2<|qk .gtr 1099511627776<|zo 27<|yo<|qR 1 5 3<|qc 28<|qn<|zo 32<|yo<|qR 1 8 20<|qc 346<|qn<|zo 38<|yo<|qr 1 28<|qh false<|qk .gtr 8<|zO 44<|qe) 56 (rs 0 (qF 2<|qe) .ret) <| sq (rs 0 (qz 57 0<|qe) <| bk 0 l328_0) <| rs 0 (qz 4 0<|qe) <| sq (rs 89 (qf 1 28<|q3 (.load (.v 1) none (.l 0))<|qH false<|q3 (.mov (ci 0))<|qe) <| bk 2 l328_1) <| rs 0 (qT 2<|qe) .ret
def F328 : F := mF 1 [.t 2] none c328
attribute [go_sem] c328 F328
def l329_0 : C := .loop [] [] [] [] (lq 57 (qm 3<|qK .lss 3<|qe) 58 0 <| sq (bk 1 (rs 61 (qr 1 1<|qm 3<|qi 3<|qg 0<|qj<|qk .lss 1<|yo<|qr 1 1<|qm 3<|qi 3<|qg 0<|qj<|qc 349<|qn<|zo 7<|yo<|qr 1 1<|qm 3<|qi 3<|qg 1<|qj<|qc 351<|qn<|zo 17<|yo<|qr 1 4<|qm 3<|qi 3<|qJ 3<|qc 24<|qn<|zO 27<|qe) <| cd 96 (rs 0 (qF 2<|qe) .ret) .skip)) <| r1 59 (qm 3<|qk .add 1<|qv 3<|qe))
def l329_1 : C := .loop [] [] [5] [] (lq 97 (qm 4<|qr 1 28<|qh false<|qQ .lss 0<|qe) 101 2 <| sq (bk 3 (rs 104 (qr 1 28<|qm 4<|qi 7<|qJ 7<|qG 5 z_12<|qs 5 7 5 4<|qe) <| rt 109 (qr 5 0<|qk .lss 1<|yo<|qr 5 0<|qk .gtr 8<|zo 3<|yo<|qm 4<|qk .gtr 0<|ya<|qr 1 28<|qm 4<|qk .sub 1<|q1 (.iad 7 (.l 13) (.l 15))<|qg 0<|qj<|qr 5 0<|qq .geq 18<|y0 8<|qa 11<|zo 8<|yo<|qr 5 1<|qc 349<|qn<|zo 24<|yo<|qr 5 2<|qc 349<|qn<|zo 30<|yo<|qR 5 3 3<|qc 24<|qn<|zo 36<|yo<|qr 5 6<|qk .lss 0<|zo 42<|yo<|qr 5 6<|qk .gtr 16<|zO 47<|qe) <| cd 160 (rs 0 (qF 2<|qe) .ret) .skip)) <| r1 102 (qm 4<|qk .add 1<|qv 4<|qe))
def c329 : C := rs 0 (qB 1 0<|qF 2<|qe) <| i1 6 (qr 1 0<|qc 147<|qn<|yo<|qr 1 3<|qc 114<|qn<|zo 4<|yo<|qr 1 1<|qh false<|qk .neq 3<|zo 10<|yo<|qr 1 4<|qh false<|qk .neq 3<|zo 16<|yo<|qr 1 2<|qk .lss 2<|zo 22<|yo<|qr 1 2<|qc 349<|qn<|zo 27<|yo<|qR 1 5 3<|qc 24<|qn<|zo 33<|yo<|qR 1 8 20<|qc 350<|qn<|zo 39<|yo<|qr 1 28<|qh false<|qk .gtr 8<|zO 45<|qe) 56 (rs 0 (qF 2<|qe) .ret) <| sq (rs 0 (qz 3 0<|qe) <| bk 0 l329_0) <| sq (rs 0 (qz 4 0<|qe) <| bk 2 l329_1) <| rs 0 (qT 2<|qe) .ret
def F329 : F := mF 1 [.t 2] none c329
attribute [go_sem] c329 F329
def l332_0 : C := .loop [] [] [] [] (lq 33 (qm 5<|qr 2 1<|qh false<|qQ .lss 0<|qe) 37 0 <| sq (bk 1 (rt 40 (qr 2 1<|qm 5<|qi 3<|qg 0<|qj<|qr 3 1<|qm 5<|qi 3<|qg 0<|qj<|qq .neq 5<|yo<|qr 2 1<|qm 5<|qi 3<|qg 2<|qj<|qr 3 1<|qm 5<|qi 3<|qg 2<|qj<|q1 (.eqb true (.l 19) (.l 25))<|zo 13<|yo<|qr 2 1<|qm 5<|qi 3<|qg 1<|qj<|qr 3 1<|qm 5<|qi 3<|qg 1<|qj<|qC 353 (ls [34,40])<|qn<|zO 28<|qe) <| cd 83 (rs 0 (qF 4<|qe) .ret) .skip)) <| r1 38 (qm 5<|qk .add 1<|qv 5<|qe))
def l332_1 : C := .loop [] [] [] [] (lq 84 (qm 6<|qr 2 4<|qh false<|qQ .lss 0<|qe) 88 2 <| sq (bk 3 (rt 91 (qr 2 4<|qm 6<|qi 3<|qJ 3<|qr 3 4<|qm 6<|qi 3<|qJ 3<|q3 (.eqa true [.i,.i,.i] (.l 4) (.l 9))<|qe) <| cd 101 (rs 0 (qF 4<|qe) .ret) .skip)) <| r1 89 (qm 6<|qk .add 1<|qv 6<|qe))
def l332_2 : C := .loop [] [] [] [] (lq 102 (qm 7<|qr 2 28<|qh false<|qQ .lss 0<|qe) 106 4 <| sq (bk 5 (rt 109 (qr 2 28<|qm 7<|qi 7<|qJ 7<|qr 3 28<|qm 7<|qi 7<|qJ 7<|q3 (.eqa true [.i,.i,.i,.i,.i,.i,.i] (.l 4) (.l 9))<|qe) <| cd 119 (rs 0 (qF 4<|qe) .ret) .skip)) <| r1 107 (qm 7<|qk .add 1<|qv 7<|qe))
def c332 : C := rs 0 (qB 2 0<|qB 3 1<|qF 4<|qe) <| i1 8 (qr 2 1<|qh false<|qr 3 1<|qh false<|qq .neq 2<|yo<|qr 2 4<|qh false<|qr 3 4<|qh false<|qq .neq 10<|zo 7<|yo<|qr 2 28<|qh false<|qr 3 28<|qh false<|qq .neq 19<|zO 16<|qe) 32 (rs 0 (qF 4<|qe) .ret) <| sq (rs 0 (qz 5 0<|qe) <| bk 0 l332_0) <| sq (rs 0 (qz 6 0<|qe) <| bk 2 l332_1) <| sq (rs 0 (qz 7 0<|qe) <| bk 4 l332_2) <| rs 120 (qr 2 0<|qr 3 0<|qC 153 (ls [1,3])<|ya<|qr 2 2<|qr 3 2<|qq .eql 7<|za 5<|ya<|qr 2 3<|qr 3 3<|qC 116 (ls [14,16])<|za 12<|ya<|qR 2 5 3<|qR 3 5 3<|q1 (.eqa false [.i,.i,.i] (.l 21) (.l 23))<|za 19<|ya<|qR 2 8 20<|qR 3 8 20<|qC 354 (ls [28,30])<|za 26<|qv 4<|qe) .ret
def F332 : F := mF 2 [.t 4] none c332
attribute [go_sem] c332 F332
def c341 : C := rs 0 (qB 1 0<|qF 2<|qe) <| i1 3 (qr 1 0<|qk .lss 1<|yo<|qr 1 0<|qk .gtr 37<|zo 3<|yo<|qf 1 25<|qg 0<|ql 1<|qk .lss 0<|zo 8<|yo<|qf 1 25<|qg 0<|ql 1<|qk .gtr 16<|zo 14<|yo<|qf 1 25<|qg 6<|ql 1<|qh false<|qk .gtr 8<|zo 20<|yo<|qr 1 34<|qh false<|qk .gtr 8<|zo 27<|yo<|qr 1 35<|qh false<|qk .gtr 8<|zO 33<|qe) 41 (rs 0 (qF 2<|qe) .ret) <| i1 42 (qb 1 36<|qc 366<|q3 (.call (.k 67) .no none [.l 1,.f 367])<|qe) 44 (rs 0 (qF 2<|qe) .ret) <| rs 45 (qR 1 9 3<|qc 28<|ya<|qf 1 13<|qg 7<|q1 (.load (.v 1) (some 3) (.l 5))<|qc 28<|za 3<|ya<|qf 1 25<|qg 1<|q1 (.load (.v 1) (some 3) (.l 11))<|qc 28<|za 9<|qv 2<|qe) .ret
def F341 : F := mF 1 [.t 2] none c341
attribute [go_sem] c341 F341
def c345 : C := rs 0 (qS 2 1<|qe) <| i1 3 (qm 0<|qc 368<|qN<|qe) 5 (rs 0 (qS 2 1<|qe) .ret) <| rs 6 (qm 0<|qm 0<|qk .rem 3<|qk .add 1<|q1 (.mks 1 2 [.int .i64 0] [(0,.l 0),(1,.l 3)])<|qv 2<|qe) .ret
def F345 : F := mF 1 [.t 2] none c345
attribute [go_sem] c345 F345
def c346 : C := rs 0 (qB 1 0<|qF 2<|qe) <| i1 3 (qr 1 0<|qk .lss 0<|yo<|qr 1 0<|qk .gtr 5<|zo 3<|yo<|qr 1 1<|qk .lss 0<|zo 8<|yo<|qr 1 1<|qk .gtr 7<|zo 13<|yo<|qr 1 2<|qr 1 3<|qr 1 4<|qr 1 7<|qr 1 10<|qr 1 11<|qr 1 12<|q1 (.mks 1 7 [.int .i64 0] [(0,.l 20),(1,.l 22),(2,.l 24),(3,.l 26),(4,.l 28),(5,.l 30),(6,.l 32)])<|qC 347 [ci 0,.l 33]<|qn<|zo 18<|yo<|qr 1 15<|qC 347 [ci 0,.l 39]<|qn<|zo 37<|yo<|qR 1 16 3<|qc 28<|qn<|zO 43<|qe) 51 (rs 0 (qF 2<|qe) .ret) <| i1 52 (qr 1 5<|qk .lss 0<|yo<|qr 1 5<|qk .gtr 3<|zo 3<|yo<|qr 1 6<|qk .lss 0<|zo 8<|yo<|qr 1 6<|qk .gtr 3<|zo 13<|yo<|qr 1 19<|qh false<|qk .gtr 0<|ya<|qr 1 19<|qc 348<|qn<|y0 18<|qa 23<|zO 18<|qe) 81 (rs 0 (qF 2<|qe) .ret) <| sq (rs 82 (qf 1 0<|q3 (.load (.v 1) none (.l 0))<|qe) <| bk 0 (rs 85 (q1 (.bin .eql (.g 83) (ci 5))<|qv 84<|qe) <| cd 84 (rs 86 (qr 1 5<|qk .gtr 0<|ya<|qr 1 19<|qh false<|qk .gtr 0<|za 3<|qv 2<|qe) .ret) <| rs 96 (q1 (.bin .eql (.g 83) (ci 1))<|qv 95<|qe) <| cd 95 (rs 97 (qr 1 5<|qk .gtr 0<|ya<|qr 1 6<|qk .gtr 0<|za 3<|qv 2<|qe) .ret) <| sq (rs 106 (q1 (.bin .eql (.g 83) (ci 2))<|qv 105<|qe) <| cd 105 .skip <| r1 107 (q1 (.bin .eql (.g 83) (ci 3))<|qv 105<|qe)) <| cd 105 (rs 108 (qr 1 5<|qk .gtr 0<|qv 2<|qe) .ret) .skip)) <| rs 0 (qT 2<|qe) .ret
def F346 : F := mF 1 [.t 2] none c346
attribute [go_sem] c346 F346
def c347 : C := rs 0 (qB 2 0<|qF 4<|qe) <| rs 5 (qm 1<|q1 (.fn 369 [.g 2] [2])<|qd 67<|qn<|qv 4<|qe) .ret
def F347 : F := mF 2 [.t 4] none c347
attribute [go_sem] c347 F347
def l348_0 : C := .loop [] [] [] [] (rs 8 (q3 (.bin .lss (.g 7) (.g 6))<|qe) <| sq (cd 8 .skip <| .exit 0) <| sq (bk 1 (rs 9 (qm 7<|q1 (.iad 1 (.g 5) (.g 7))<|qj<|qV 3 0<|qw 4<|qe) <| rs 12 (qm 4<|qk .lss 1<|yo<|qm 4<|qk .gtr 3<|zo 2<|yo<|qm 0<|qm 3<|q1 (.sl false 1 (.l 7) none (some (.l 8)))<|qm 4<|qd 65<|zO 6<|qe) <| cd 24 (rs 0 (qF 2<|qe) .ret) .skip)) <| r1 25 (q1 (.bin .add (.g 7) (ci 1))<|qv 7<|qe))
def c348 : C := rs 0 (qF 2<|qe) <| sq (rs 5 (q3 (.mov (.g 0))<|qH false<|q3 (.mov (ci 0))<|qe) <| bk 0 l348_0) <| rs 26 (qm 0<|qh false<|qk .gtr 0<|qv 2<|qe) .ret
def F348 : F := mF 1 [.t 2] none c348
attribute [go_sem] c348 F348
def c349 : C := rs 0 (qF 2<|qe) <| rs 3 (qm 0<|qk .geq 0<|ya<|qm 0<|qk .leq 1099511627776<|za 2<|qv 2<|qe) .ret
def F349 : F := mF 1 [.t 2] none c349
attribute [go_sem] c349 F349
def l350_0 : C := .loop [] [] [] [] (lq 70 (qm 3<|qr 1 15<|qh false<|qQ .lss 0<|qe) 74 0 <| sq (bk 1 (rs 77 (qr 1 15<|qm 3<|qi 1<|qj<|qc 349<|qN<|qe) <| cd 83 (rs 0 (qF 2<|qe) .ret) .skip)) <| r1 75 (qm 3<|qk .add 1<|qv 3<|qe))
def c350 : C := rs 0 (qB 1 0<|qF 2<|qe) <| i1 4 (qr 1 0<|qk .lss 0<|yo<|qr 1 0<|qk .gtr 5<|zo 3<|yo<|qr 1 1<|qk .lss 0<|zo 8<|yo<|qr 1 1<|qk .gtr 7<|zo 13<|yo<|qr 1 2<|qc 349<|qn<|zo 18<|yo<|qr 1 3<|qc 349<|qn<|zo 24<|yo<|qr 1 4<|qc 349<|qn<|zo 30<|yo<|qr 1 7<|qc 349<|qn<|zo 36<|yo<|qr 1 10<|qc 349<|qn<|zo 42<|yo<|qr 1 11<|qc 349<|qn<|zo 48<|yo<|qr 1 12<|qc 349<|qn<|zo 54<|yo<|qR 1 16 3<|qc 24<|qn<|zO 60<|qe) 69 (rs 0 (qF 2<|qe) .ret) <| sq (rs 0 (qz 3 0<|qe) <| bk 0 l350_0) <| i1 84 (qr 1 5<|qk .lss 0<|yo<|qr 1 5<|qk .gtr 3<|zo 3<|yo<|qr 1 6<|qk .lss 0<|zo 8<|yo<|qr 1 6<|qk .gtr 3<|zo 13<|yo<|qr 1 19<|qh false<|qk .gtr 0<|ya<|qr 1 19<|qc 351<|qn<|y0 18<|qa 23<|zO 18<|qe) 113 (rs 0 (qF 2<|qe) .ret) <| i1 114 (qr 1 0<|qk .eql 5<|ya<|qr 1 19<|qh false<|qk .eql 0<|za 3<|yo<|qr 1 0<|qk .eql 1<|ya<|qr 1 6<|qk .eql 0<|y0 9<|qa 13<|zO 9<|qe) 132 (rs 0 (qF 2<|qe) .ret) <| rs 133 (qr 1 0<|qk .eql 0<|yo<|qr 1 0<|qk .eql 4<|zo 3<|yo<|qr 1 5<|qk .gtr 0<|zo 8<|qv 2<|qe) .ret
def F350 : F := mF 1 [.t 2] none c350
attribute [go_sem] c350 F350
def l351_0 : C := .loop [] [] [] [] (lq 6 (qm 4<|qm 0<|qh false<|qQ .lss 0<|qe) 9 0 <| sq (bk 1 (i1 12 (qm 0<|qm 4<|qi 1<|qj<|qk .lss 1<|yo<|qm 0<|qm 4<|qi 1<|qj<|qk .gtr 3<|zo 5<|yo<|qm 0<|qm 4<|qi 1<|qj<|q1 (.iada 1 4 (.g 3) (.l 16))<|ql 3<|zO 12<|qe) 31 (rs 0 (qF 2<|qe) .ret) <| r1 32 (qm 0<|qm 4<|qi 1<|qj<|q1 (.iada 1 4 (.g 3) (.l 3))<|q5 (.store (.v 3) 1 (.l 4) (cb true))<|qe))) <| r1 10 (qm 4<|qk .add 1<|qv 4<|qe))
def c351 : C := rs 0 (qF 2<|qe) <| rs 5 (q1 (.build z_15 [])<|qG 3 z_15<|qs 3 4 1 0<|qe) <| sq (rs 0 (qz 4 0<|qe) <| bk 0 l351_0) <| rs 37 (qm 0<|qh false<|qk .gtr 0<|qv 2<|qe) .ret
def F351 : F := mF 1 [.t 2] none c351
attribute [go_sem] c351 F351
def l353_0 : C := .loop [] [] [] [] (lq 11 (qm 5<|qm 0<|qh false<|qQ .lss 0<|qe) 14 0 <| sq (bk 1 (rt 17 (qm 0<|qm 5<|qi 1<|qj<|qm 1<|qm 5<|qi 1<|qj<|qQ .neq 3<|qe) <| cd 25 (rs 0 (qF 4<|qe) .ret) .skip)) <| r1 15 (qm 5<|qk .add 1<|qv 5<|qe))
def c353 : C := rs 0 (qF 4<|qe) <| i1 6 (qm 0<|qh false<|qm 1<|qh false<|qQ .neq 1<|qe) 10 (rs 0 (qF 4<|qe) .ret) <| sq (rs 0 (qz 5 0<|qe) <| bk 0 l353_0) <| rs 0 (qT 4<|qe) .ret
def F353 : F := mF 2 [.t 4] none c353
attribute [go_sem] c353 F353
def l354_0 : C := .loop [] [] [] [] (lq 13 (qm 5<|qr 2 9<|qh false<|qQ .lss 0<|qe) 17 0 <| sq (bk 1 (rt 20 (qr 2 9<|qm 5<|qi 1<|qj<|qr 3 9<|qm 5<|qi 1<|qj<|qQ .neq 4<|qe) <| cd 30 (rs 0 (qF 4<|qe) .ret) .skip)) <| r1 18 (qm 5<|qk .add 1<|qv 5<|qe))
def c354 : C := rs 0 (qB 2 0<|qB 3 1<|qF 4<|qe) <| i1 6 (qr 2 9<|qh false<|qr 3 9<|qh false<|qQ .neq 2<|qe) 12 (rs 0 (qF 4<|qe) .ret) <| sq (rs 0 (qz 5 0<|qe) <| bk 0 l354_0) <| rs 31 (qr 2 0<|qr 3 0<|qq .eql 1<|ya<|qr 2 1<|qr 3 1<|qq .eql 7<|za 5<|ya<|qr 2 2<|qr 3 2<|qq .eql 14<|za 12<|ya<|qr 2 3<|qr 3 3<|qq .eql 21<|za 19<|ya<|qr 2 4<|qr 3 4<|qq .eql 28<|za 26<|ya<|qr 2 5<|qr 3 5<|qq .eql 35<|za 33<|ya<|qr 2 6<|qr 3 6<|qq .eql 42<|za 40<|ya<|qr 2 7<|qr 3 7<|qq .eql 49<|za 47<|ya<|qr 2 8<|qr 3 8<|qq .eql 56<|za 54<|ya<|qr 2 10<|qr 3 10<|qq .eql 63<|za 61<|ya<|qr 2 11<|qr 3 11<|qq .eql 70<|za 68<|ya<|qr 2 12<|qr 3 12<|qq .eql 77<|za 75<|ya<|qR 2 13 2<|qR 3 13 2<|q1 (.eqa false [.s,.s] (.l 84) (.l 86))<|za 82<|ya<|qr 2 15<|qr 3 15<|qC 353 (ls [91,93])<|za 89<|ya<|qR 2 16 3<|qR 3 16 3<|q1 (.eqa false [.i,.i,.i] (.l 98) (.l 100))<|za 96<|ya<|qr 2 19<|qr 3 19<|qC 353 (ls [105,107])<|za 103<|qv 4<|qe) .ret
def F354 : F := mF 2 [.t 4] none c354
attribute [go_sem] c354 F354
def l360_0 : C := .loop [] [] [] [] (lq 11 (qm 5<|qm 0<|qh false<|qQ .lss 0<|qe) 14 0 <| sq (bk 1 (rt 17 (qm 0<|qm 5<|qi 36<|qJ 36<|qm 1<|qm 5<|qi 36<|qJ 36<|qC 372 (ls [3,7])<|qN<|qe) <| cd 26 (rs 0 (qF 4<|qe) .ret) .skip)) <| r1 15 (qm 5<|qk .add 1<|qv 5<|qe))
def c360 : C := rs 0 (qF 4<|qe) <| i1 6 (qm 0<|qh false<|qm 1<|qh false<|qQ .neq 1<|qe) 10 (rs 0 (qF 4<|qe) .ret) <| sq (rs 0 (qz 5 0<|qe) <| bk 0 l360_0) <| rs 0 (qT 4<|qe) .ret
def F360 : F := mF 2 [.t 4] none c360
attribute [go_sem] c360 F360
def l366_0 : C := .loop [] [] [5] [] (rs 41 (q3 (.bin .lss (.g 40) (.g 39))<|qe) <| sq (cd 41 .skip <| .exit 0) <| sq (bk 1 (rs 42 (q1 (.iad 5 (.g 38) (.g 40))<|qJ 5<|qG 5 z_0<|qs 5 5 2 1<|qe) <| r1 44 (qm 3<|qr 5 2<|qr 5 3<|qr 5 4<|q1 (.mks 1 3 [.int .i64 0] [(0,.l 2),(1,.l 4),(2,.l 6)])<|q1 (.app 36 1 (.l 0) (.l 7))<|qv 3<|qe))) <| r1 53 (q1 (.bin .add (.g 40) (ci 1))<|qv 40<|qe))
def c366 : C := rs 0 (qB 1 0<|qS 2 1<|qe) <| rs 6 (qr 1 0<|qr 1 1<|qr 1 2<|qr 1 3<|qr 1 4<|qr 1 5<|qr 1 6<|qr 1 7<|qr 1 8<|qf 1 13<|qg 0<|ql 1<|qf 1 13<|qg 1<|ql 1<|qf 1 13<|qg 2<|ql 1<|qf 1 13<|qg 11<|ql 1<|q1 (.mkb 1 13 [.int .i64 0] [(0,.l 1),(1,.l 3),(2,.l 5),(3,.l 7),(4,.l 9),(5,.l 11),(6,.l 13),(7,.l 15),(8,.l 17),(9,.l 20),(10,.l 23),(11,.l 26),(12,.l 29)])<|qv 3<|qe) <| sq (rs 37 (qf 1 34<|q3 (.load (.v 1) none (.l 0))<|qH false<|q3 (.mov (ci 0))<|qe) <| bk 0 l366_0) <| rs 54 (qm 3<|qr 1 35<|q1 (.app 36 1 (.l 0) (.l 2))<|qv 2<|qe) .ret
def F366 : F := mF 1 [.t 2] none c366
attribute [go_sem] c366 F366
def c367 : C := rs 0 (qF 2<|qe) <| rs 3 (qm 0<|qk .lss 0<|yo<|qm 0<|qk .gtr 1099511627776<|zo 2<|qv 2<|qe) .ret
def F367 : F := mF 1 [.t 2] none c367
attribute [go_sem] c367 F367
def c368 : C := rs 0 (qF 2<|qe) <| rs 3 (qm 0<|qk .geq 1<|ya<|qm 0<|qk .leq 3<|za 2<|qv 2<|qe) .ret
def F368 : F := mF 1 [.t 2] none c368
attribute [go_sem] c368 F368
def c369 : C := rs 0 (qF 3<|qe) <| rs 4 (qm 0<|q1 (.load (.c) none (.g 1))<|qq .lss 0<|yo<|qm 0<|qk .gtr 1099511627776<|zo 3<|qv 3<|qe) .ret
def F369 : F := mF 2 [.t 3] none c369
attribute [go_sem] c369 F369
def l372_0 : C := .loop [] [] [] [] (lq 13 (qm 5<|qr 2 35<|qh false<|qQ .lss 0<|qe) 17 0 <| sq (bk 1 (rt 20 (qr 2 35<|qm 5<|qi 1<|qj<|qr 3 35<|qm 5<|qi 1<|qj<|qQ .neq 4<|qe) <| cd 30 (rs 0 (qF 4<|qe) .ret) .skip)) <| r1 18 (qm 5<|qk .add 1<|qv 5<|qe))
def c372 : C := rs 0 (qB 2 0<|qB 3 1<|qF 4<|qe) <| i1 6 (qr 2 35<|qh false<|qr 3 35<|qh false<|qQ .neq 2<|qe) 12 (rs 0 (qF 4<|qe) .ret) <| sq (rs 0 (qz 5 0<|qe) <| bk 0 l372_0) <| rs 31 (qr 2 0<|qr 3 0<|qq .eql 1<|ya<|qr 2 1<|qr 3 1<|qq .eql 7<|za 5<|ya<|qr 2 2<|qr 3 2<|qq .eql 14<|za 12<|ya<|qr 2 3<|qr 3 3<|qq .eql 21<|za 19<|ya<|qr 2 4<|qr 3 4<|qq .eql 28<|za 26<|ya<|qr 2 5<|qr 3 5<|qq .eql 35<|za 33<|ya<|qr 2 6<|qr 3 6<|qq .eql 42<|za 40<|ya<|qr 2 7<|qr 3 7<|qq .eql 49<|za 47<|ya<|qr 2 8<|qr 3 8<|qq .eql 56<|za 54<|ya<|qR 2 9 3<|qR 3 9 3<|q1 (.eqa false [.i,.i,.i] (.l 63) (.l 65))<|za 61<|ya<|qr 2 12<|qr 3 12<|qq .eql 70<|za 68<|ya<|qR 2 13 12<|qR 3 13 12<|q1 (.eqa false [.i,.i,.i,.s,.s,.b,.s,.i,.i,.i,.s,.i] (.l 77) (.l 79))<|za 75<|ya<|qR 2 25 9<|qR 3 25 9<|qC 101 (ls [84,86])<|za 82<|ya<|qr 2 34<|qr 3 34<|qC 153 (ls [91,93])<|za 89<|qv 4<|qe) .ret
def F372 : F := mF 2 [.t 4] none c372
attribute [go_sem] c372 F372
def l395_0 : C := .loop [] [] [8] [] (lq 19 (qm 5<|qK .leq 3<|qe) 20 0 <| sq (bk 1 (rs 24 (qm 5<|q1 (.call (.k 397) .freeze none [.l 0])<|q1 (.call (.k 401) .borrow none [.l 1])<|q2 23 (.mov (.l 2))<|qx 0<|qy 1<|qw 6<|qD 7<|q1 (.mov (.l 5))<|qe) <| rs 30 (qm 0<|qm 5<|q1 (.call (.k 345) .freeze none [.l 1])<|qm 6<|q1 (.call (.k 43) .freeze none [.l 0,.l 2,.l 3])<|q2 29 (.mov (.l 4))<|qx 0<|qy 1<|qG 8 z_4<|qs 8 7 8 6<|qV 9 7<|qe) <| rs 37 (qm 9<|qK .eql 0<|qe) <| cd 38 (r1 39 (qr 4 1<|qm 5<|qb 8 7<|q1 (.build z_16 [(0,1,.l 2),(1,7,.l 3)])<|q1 (.mks 9 1 z_16 [(0,.l 4)])<|q1 (.app 45 9 (.l 1) (.l 5))<|qf 4 1<|qs 4 1 7 6<|qe)) .skip)) <| r1 21 (qm 5<|qk .add 1<|qv 5<|qe))
def c395 : C := rs 0 (qG 2 z_17<|qz 3 0<|qe) <| i1 10 (qm 0<|qk .lss 1<|yo<|qm 0<|qk .gtr 3<|zO 2<|qe) 15 (rs 16 (q1 (.build z_17 [])<|qt 2 2 0<|qz 3 1<|qe) .ret) <| rs 17 (qm 0<|q1 (.build [.int .i64 0,.nslice 9] [(0,1,.l 0)])<|qG 4 z_18<|qs 4 2 2 1<|qe) <| sq (rs 0 (qz 5 1<|qe) <| bk 0 l395_0) <| rs 47 (qb 4 2<|qt 2 2 0<|qz 3 0<|qe) .ret
def F395 : F := mF 1 [.cell 2 (some 2),.t 3] none c395
attribute [go_sem] c395 F395
def c397 : C := rs 0 (qG 2 z_7<|qe) <| i1 3 (qm 0<|qK .neq 1<|qe) 4 (rs 5 (q1 (.build z_7 [])<|qt 2 5 0<|qe) .ret) <| rs 6 (q1 (.build z_9 [(0,1,.c (.int .i64 1)),(1,1,.c (.int .i64 1)),(4,1,.c (.int .i64 1))])<|q1 (.mks 17 1 z_9 [(0,.l 0)])<|q1 (.build z_7 [(0,1,.l 1)])<|qt 2 5 2<|qe) .ret
def F397 : F := mF 1 [.cell 2 (some 5)] none c397
attribute [go_sem] c397 F397
def l398_0 : C := .loop [] [] [5] [] (rs 13 (q3 (.bin .lss (.g 12) (.g 11))<|qe) <| sq (cd 13 .skip <| .exit 0) <| sq (bk 1 (rs 14 (q1 (.iad 9 (.g 10) (.g 12))<|qJ 9<|qG 5 z_16<|qs 5 9 2 1<|qe) <| r1 16 (qr 3 1<|qr 5 0<|qR 5 1 7<|qr 5 8<|q1 (.build z_16 [(0,1,.l 3),(1,7,.l 5),(8,1,.l 7)])<|q1 (.mks 9 1 z_16 [(0,.l 8)])<|q1 (.app 26 9 (.l 1) (.l 9))<|qf 3 1<|qs 3 1 11 10<|qe))) <| r1 28 (q1 (.bin .add (.g 12) (ci 1))<|qv 12<|qe))
def c398 : C := rs 0 (qB 1 0<|qG 2 z_17<|qe) <| rs 6 (qr 1 0<|q1 (.build [.int .i64 0,.nslice 9] [(0,1,.l 1)])<|qG 3 z_18<|qs 3 2 3 2<|qe) <| sq (rs 9 (qf 1 1<|q3 (.load (.v 1) none (.l 0))<|qH false<|q3 (.mov (ci 0))<|qe) <| bk 0 l398_0) <| rs 29 (qb 3 2<|qt 2 2 0<|qe) .ret
def F398 : F := mF 1 [.cell 2 (some 2)] none c398
attribute [go_sem] c398 F398
def l399_0 : C := .loop [] [] [] [] (lq 20 (qm 5<|qr 2 1<|qh false<|qQ .lss 0<|qe) 24 0 <| sq (bk 1 (rt 27 (qr 2 1<|qm 5<|qi 9<|qg 0<|qj<|qr 3 1<|qm 5<|qi 9<|qg 0<|qj<|qq .neq 5<|yo<|qr 2 1<|qm 5<|qi 9<|qg 1<|qJ 7<|qr 3 1<|qm 5<|qi 9<|qg 1<|qJ 7<|qC 45 (ls [19,25])<|qn<|zo 13<|yo<|qr 2 1<|qm 5<|qi 9<|qg 8<|qj<|qr 3 1<|qm 5<|qi 9<|qg 8<|qj<|qC 360 (ls [35,41])<|qn<|zO 29<|qe) <| cd 71 (rs 0 (qF 4<|qe) .ret) .skip)) <| r1 25 (qm 5<|qk .add 1<|qv 5<|qe))
def c399 : C := rs 0 (qB 2 0<|qB 3 1<|qF 4<|qe) <| i1 6 (qr 2 0<|qr 3 0<|qq .neq 1<|yo<|qr 2 1<|qh false<|qr 3 1<|qh false<|qq .neq 8<|zO 5<|qe) 19 (rs 0 (qF 4<|qe) .ret) <| sq (rs 0 (qz 5 0<|qe) <| bk 0 l399_0) <| rs 0 (qT 4<|qe) .ret
def F399 : F := mF 2 [.t 4] none c399
attribute [go_sem] c399 F399
def l401_0 : C := .loop [] [4,0,10400] [6] [20200] (rs 25 (q3 (.bin .lss (.g 24) (.g 23))<|qe) <| sq (cd 25 .skip <| .exit 0) <| sq (bk 1 (rs 26 (q1 (.iad 17 (.g 22) (.g 24))<|qJ 17<|qG 6 z_9<|qs 6 17 2 1<|qe) <| r1 28 (qb 6 17<|q1 (.rcall 423 [.g 4,.l 0] 0 4 20200)<|qe))) <| r1 30 (q1 (.bin .add (.g 24) (ci 1))<|qv 24<|qe))
def c401 : C := rs 0 (qB 1 0<|qE 2<|qz 3 0<|qe) <| i1 7 (qb 1 5<|qc 249<|qN<|qe) 9 (rs 0 (qE 2<|qz 3 1<|qe) .ret) <| rs 4 (q3 (.allo [.nslice 1] 10400)<|qe) <| rs 10 (qR 1 1 3<|q1 (.mks 3 1 z_19 [(0,.l 1)])<|q1 (.rcall 421 [.g 4,.l 2] 0 4 20000)<|qe) <| rs 14 (qr 1 4<|qr 1 0<|qh false<|q1 (.mks 1 2 [.int .i64 0] [(0,.l 1),(1,.l 4)])<|q1 (.rcall 422 [.g 4,.l 5] 0 4 20100)<|qe) <| sq (rs 21 (qf 1 0<|q3 (.load (.v 1) none (.l 0))<|qH false<|q3 (.mov (ci 0))<|qe) <| bk 0 l401_0) <| rs 31 (qr 4 0<|q1 (.b2s (.l 1))<|qv 2<|qz 3 0<|qe) .ret
def F401 : F := mF 1 [.t 2,.t 3] none c401
attribute [go_sem] c401 F401
def l405_1 : C := .loop [] [] [] [] (lq 100 (qm 9<|qr 4 8<|qh false<|qQ .lss 0<|qe) 104 2 <| sq (bk 3 (rt 107 (qr 4 8<|qm 9<|qi 36<|qJ 36<|qc 414<|qn<|yo<|qr 4 8<|qm 9<|qi 36<|qg 1<|qj<|qr 1 0<|qq .neq 13<|zO 7<|qe) <| cd 124 (rs 0 (qF 2<|qe) .ret) .skip)) <| r1 105 (qm 9<|qk .add 1<|qv 9<|qe))
def r405_17 : List Op := (qm 3<|qk .add 1<|qv 3<|qe) 23 0 none
def l405_0 : C := .loop [] [] [4,5,7] [] (lq 18 (qm 3<|qr 1 1<|qh false<|qQ .lss 0<|qe) 22 0 <| sq (bk 1 (rs 25 (qr 1 1<|qm 3<|qi 9<|qJ 9<|qG 4 z_16<|qs 4 9 5 4<|qe) <| rs 31 (qf 4 1<|qg 4<|ql 4<|qc 425<|q2 30 (.mov (.l 3))<|qx 0<|qy 1<|qD 5<|q1 (.alloc z_7)<|qs 5 5 7 5<|q3 (.mov (.l 6))<|qe) <| rs 38 (qf 4 1<|qg 5<|ql 4<|qc 425<|q2 37 (.mov (.l 3))<|qx 0<|qy 1<|qD 7<|q1 (.alloc z_7)<|qs 7 5 7 5<|q3 (.mov (.l 6))<|qe) <| i2 44 (qr 4 0<|qk .lss 1<|yo<|qr 4 0<|qk .gtr 3<|zo 3<|yo<|qm 3<|qk .gtr 0<|ya<|qr 1 1<|qm 3<|qk .sub 1<|q1 (.iad 9 (.l 13) (.l 15))<|qg 0<|qj<|qr 4 0<|qq .geq 18<|y0 8<|qa 11<|zo 8<|yo<|qf 4 1<|qg 0<|ql 4<|qr 1 0<|qq .neq 27<|zo 24<|yo<|qR 4 1 7<|qc 37<|qn<|zo 32<|yo<|qm 6<|qn<|zo 38<|yo<|qm 8<|qn<|zO 42<|qe) 89 (rs 0 (qF 2<|qe) .ret) <| i1 90 (qr 4 8<|qh false<|qk .gtr 0<|ya<|qR 4 1 7<|qc 426<|qn<|zA 4<|qe) 99 (rs 0 (qF 2<|qe) .ret) <| rs 0 (qz 9 0<|qe) <| bk 2 l405_1)) <| .region false r405_17)
def r405_18 : List Op := (qT 2<|qe) 0 0 none
def c405 : C := rs 0 (qB 1 0<|qF 2<|qe) <| i1 10 (qr 1 0<|qk .lss 1<|yo<|qr 1 0<|qk .gtr 3<|zO 3<|qe) 17 (rs 0 (qF 2<|qe) .ret) <| sq (rs 0 (qz 3 0<|qe) <| bk 0 l405_0) <| sq (.region false r405_18) .ret
def F405 : F := mF 1 [.t 2] none c405
attribute [go_sem] r405_17 r405_18 c405 F405
def l408_0 : C := .loop [] [] [5] [] (rs 10 (q3 (.bin .lss (.g 9) (.g 8))<|qe) <| sq (cd 10 .skip <| .exit 0) <| sq (bk 1 (rs 11 (q1 (.iad 9 (.g 7) (.g 9))<|qJ 9<|qG 5 z_16<|qs 5 9 2 1<|qe) <| i1 13 (qr 5 0<|qm 3<|qq .leq 1<|yo<|qr 5 0<|qc 368<|qn<|zo 4<|yo<|qf 5 1<|qg 0<|ql 5<|qr 1 0<|qq .neq 13<|zo 10<|yo<|qR 5 1 7<|qc 39<|qn<|zo 18<|yo<|qf 5 1<|qg 4<|ql 5<|qc 430<|qn<|zo 24<|yo<|qf 5 1<|qg 5<|ql 5<|qc 430<|qn<|zO 31<|qe) 50 (rs 0 (qF 2<|qe) .ret) <| i1 51 (qr 5 8<|qh false<|qk .gtr 0<|ya<|qR 5 1 7<|qc 41<|qn<|za 4<|yo<|qr 5 8<|q1 (.fn 431 [.g 1] [1])<|qd 432<|zO 10<|qe) 66 (rs 0 (qF 2<|qe) .ret) <| r1 67 (qr 5 0<|qv 3<|qe))) <| r1 69 (q1 (.bin .add (.g 9) (ci 1))<|qv 9<|qe))
def c408 : C := rs 0 (qB 1 0<|qF 2<|qe) <| rs 0 (qz 3 0<|qe) <| sq (rs 6 (qf 1 1<|q3 (.load (.v 1) none (.l 0))<|qH false<|q3 (.mov (ci 0))<|qe) <| bk 0 l408_0) <| rs 70 (qr 1 0<|qk .geq 1<|ya<|qr 1 0<|qk .leq 3<|za 3<|qv 2<|qe) .ret
def F408 : F := mF 1 [.t 2] none c408
attribute [go_sem] c408 F408
def l411_0 : C := .loop [] [] [] [] (lq 19 (qm 7<|qm 6<|qq .lss 0<|ya<|qm 4<|q1 (.nilc (.l 4))<|qg 1<|ql 10<|qn<|zA 3<|qe) 28 0 <| sq (bk 1 (r2 31 (qr 5 0<|qm 4<|q1 (.rcall 436 [.l 2] 0 10 20300)<|q1 (.mks 17 1 z_9 [(0,.l 3)])<|q1 (.app 36 17 (.l 1) (.l 4))<|qf 5 0<|qs 5 1 6 5<|qe))) <| r1 29 (qm 7<|qk .add 1<|qv 7<|qe))
def c411 : C := rs 0 (qG 2 z_7<|qF 3<|qe) <| rs 8 (qm 0<|q1 (.build z_20 [(0,1,.l 0)])<|q1 (.box (.l 1))<|qv 4<|qe) <| rs 11 (qm 4<|q1 (.rcall 434 [.l 0] 0 10 20000)<|q1 (.build [.nslice 17,.int .i64 0,.int .i64 0,.int .i64 0,.int .i64 0] [(1,3,.l 1)])<|qG 5 z_21<|qs 5 5 3 2<|qe) <| rs 14 (qm 4<|q1 (.rcall 435 [.l 0] 0 10 20100)<|qf 5 4<|qs 5 1 2 1<|qe) <| rs 17 (qm 4<|q1 (.rcall 435 [.l 0] 0 10 20200)<|qv 6<|qe) <| sq (rs 0 (qz 7 0<|qe) <| bk 0 l411_0) <| i1 38 (qm 4<|q1 (.nilc (.l 0))<|qg 1<|ql 10<|yo<|qb 5 5<|q1 (.call (.k 246) .borrow none [.l 5])<|qn<|zo 4<|yo<|qb 5 5<|q1 (.call (.k 424) .borrow none [.l 10])<|qm 0<|qq .neq 11<|zO 9<|qe) 52 (rs 53 (q1 (.build z_7 [])<|qt 2 5 0<|qF 3<|qe) .ret) <| rs 54 (qb 5 5<|qt 2 5 0<|qT 3<|qe) .ret
def F411 : F := mF 1 [.cell 2 (some 5),.t 3] none c411
attribute [go_sem] c411 F411
def c413 : C := rs 0 (qB 3 0<|qB 5 2<|qG 6 z_17<|qS 7 36<|qe) <| i1 14 (qb 3 2<|qc 408<|qn<|yo<|qb 5 36<|qc 341<|qn<|zo 3<|yo<|qm 1<|qk .lss 0<|zo 8<|yo<|qm 1<|qk .gtr 1099511627776<|zo 12<|yo<|qr 5 2<|qr 3 0<|qq .neq 18<|zO 16<|qe) 36 (rs 37 (qb 3 2<|qt 6 2 0<|qS 7 36<|qe) .ret) <| sq (rs 38 (qf 5 0<|q3 (.load (.v 5) none (.l 0))<|qe) <| bk 0 (sq (rs 41 (q1 (.bin .eql (.g 39) (ci 35))<|qv 40<|qe) <| cd 40 .skip <| rs 42 (q1 (.bin .eql (.g 39) (ci 36))<|qv 40<|qe) <| cd 40 .skip <| r1 43 (q1 (.bin .eql (.g 39) (ci 37))<|qv 40<|qe)) <| cd 40 (rs 44 (qb 3 2<|qb 5 36<|qd 437<|qx 0<|qy 1<|qt 6 2 3<|qw 7<|qe) .ret) <| rs 50 (q1 (.bin .eql (.g 39) (ci 33))<|qv 49<|qe) <| cd 49 (rs 51 (qb 3 2<|qb 5 36<|qd 438<|qx 0<|qy 1<|qt 6 2 3<|qw 7<|qe) .ret) .skip)) <| rs 57 (qb 3 2<|qr 5 7<|qC 427 (ls [0,2])<|q2 56 (.mov (.l 3))<|qx 0<|qy 1<|qG 8 z_16<|qs 8 9 7 5<|qV 9 6<|qe) <| i1 63 (qm 9<|qn<|yo<|qR 8 1 7<|qc 40<|qn<|zO 2<|qe) 70 (i1 71 (qr 5 0<|qK .eql 1<|qe) 73 (rt 74 (qb 3 2<|qb 3 2<|qb 5 36<|q1 (.build z_8 [(0,1,.c (.int .i64 10))])<|qC 439 (ls [1,2,3])<|q1 (.mks 36 1 z_22 [(0,.l 4)])<|qt 6 2 0<|qw 7<|qe) .ret) <| rs 80 (qb 3 2<|qt 6 2 0<|qS 7 36<|qe) .ret) <| i1 81 (qR 8 1 7<|q3 (.call (.k 41) .no none [.l 1])<|qe) 83 (rs 84 (qb 3 2<|qt 6 2 0<|qS 7 36<|qe) .ret) <| rs 86 (qf 8 1<|qg 4<|ql 8<|qc 428<|q2 85 (.mov (.l 3))<|qx 0<|qy 1<|qG 10 z_7<|qs 10 5 7 5<|qD 11<|q1 (.mov (.l 6))<|qe) <| sq (rs 92 (qf 5 0<|q3 (.load (.v 5) none (.l 0))<|qe) <| bk 1 (rs 95 (q1 (.bin .eql (.g 93) (ci 1))<|qv 94<|qe) <| cd 94 (rs 96 (qb 3 2<|qb 8 9<|qb 10 5<|qm 1<|qb 5 36<|qC 440 (ls [0,1,2,3,4])<|qx 0<|qy 1<|qt 6 2 6<|qw 7<|qe) .ret) <| rs 105 (q1 (.bin .eql (.g 93) (ci 14))<|qv 104<|qe) <| cd 104 (rt 106 (qb 3 2<|qb 3 2<|qb 10 5<|qb 5 36<|qC 441 (ls [1,2,3])<|qt 6 2 0<|qw 7<|qe) .ret) <| rs 112 (q1 (.bin .eql (.g 93) (ci 30))<|qv 111<|qe) <| cd 111 (i1 113 (qR 5 9 3<|qR 10 1 3<|qC 15 (ls [1,3])<|qK .leq 0<|qe) 118 (rt 119 (qb 3 2<|qr 3 0<|qr 5 7<|qR 10 1 3<|q1 (.build z_22 [(0,1,.c (.int .i64 31)),(1,1,.l 2),(7,1,.l 4),(9,3,.l 6)])<|q1 (.mks 36 1 z_22 [(0,.l 7)])<|qt 6 2 0<|qw 7<|qe) .ret) <| rt 128 (qb 3 2<|qb 8 9<|qb 10 5<|qR 5 9 3<|qC 261 (ls [2,4])<|qr 3 0<|qr 5 7<|qR 5 9 3<|q1 (.build z_22 [(0,1,.c (.int .i64 31)),(1,1,.l 7),(7,1,.l 9),(9,3,.l 11)])<|q1 (.mks 36 1 z_22 [(0,.l 12)])<|qC 442 (ls [0,1,5,13])<|qx 0<|qy 1<|qt 6 2 15<|qw 7<|qe) .ret) <| rs 146 (q1 (.bin .eql (.g 93) (ci 32))<|qv 145<|qe) <| cd 145 (rs 147 (qb 3 2<|qb 8 9<|qb 10 5<|qb 5 36<|qC 443 (ls [0,1,2,3])<|qx 0<|qy 1<|qt 6 2 5<|qw 7<|qe) .ret) .skip)) <| rs 155 (qb 3 2<|qb 10 5<|qb 5 36<|qC 444 (ls [0,1,2])<|q2 154 (.mov (.l 3))<|qx 0<|qy 1<|qY 4 2<|qG 12 z_7<|qG 13 z_22<|qs 12 5 8 5<|qs 13 36 9 6<|qV 9 7<|qe) <| i1 162 (qm 9<|qN<|qe) 163 (rs 164 (qb 3 2<|qt 6 2 0<|qS 7 36<|qe) .ret) <| rt 165 (qr 3 0<|qr 5 7<|qf 13 1<|qs 13 1 4 1<|qf 13 7<|qs 13 1 6 3<|qe) <| rs 171 (qb 3 2<|qb 8 9<|qb 12 5<|qb 13 36<|q1 (.mks 36 1 z_22 [(0,.l 3)])<|qC 442 (ls [0,1,2,4])<|qx 0<|qy 1<|qt 6 2 6<|qw 7<|qe) .ret
def F413 : F := mF 3 [.cell 6 (some 2),.t 7] none c413
attribute [go_sem] c413 F413
def l414_0 : C := .loop [] [] [] [] (lq 118 (qm 3<|qr 1 34<|qh false<|qQ .lss 0<|qe) 122 0 <| sq (bk 1 (rs 125 (qr 1 34<|qm 3<|qi 5<|qg 2<|qj<|qc 445<|qn<|yo<|qr 1 34<|qm 3<|qi 5<|qg 3<|qj<|qc 445<|qn<|zo 8<|yo<|qr 1 34<|qm 3<|qi 5<|qg 4<|qj<|qc 445<|qn<|zO 18<|qe) <| cd 152 (rs 0 (qF 2<|qe) .ret) .skip)) <| r1 123 (qm 3<|qk .add 1<|qv 3<|qe))
def l414_1 : C := .loop [] [] [] [] (lq 153 (qm 4<|qr 1 35<|qh false<|qQ .lss 0<|qe) 157 2 <| sq (bk 3 (rs 160 (qr 1 35<|qm 4<|qi 1<|qj<|qc 445<|qN<|qe) <| cd 166 (rs 0 (qF 2<|qe) .ret) .skip)) <| r1 158 (qm 4<|qk .add 1<|qv 4<|qe))
def c414 : C := rs 0 (qB 1 0<|qF 2<|qe) <| i1 5 (qr 1 0<|qk .lss 1<|yo<|qr 1 0<|qk .gtr 37<|zo 3<|yo<|qf 1 25<|qg 0<|ql 1<|qk .lss 0<|zo 8<|yo<|qf 1 25<|qg 0<|ql 1<|qk .gtr 16<|zo 14<|yo<|qf 1 25<|qg 6<|ql 1<|qh false<|qk .gtr 8<|zo 20<|yo<|qr 1 34<|qh false<|qk .gtr 8<|zo 27<|yo<|qr 1 35<|qh false<|qk .gtr 8<|zO 33<|qe) 43 (rs 0 (qF 2<|qe) .ret) <| i1 44 (qr 1 1<|qc 445<|qn<|yo<|qr 1 2<|qc 445<|qn<|zo 4<|yo<|qr 1 3<|qc 445<|qn<|zo 10<|yo<|qr 1 4<|qc 445<|qn<|zo 16<|yo<|qr 1 5<|qc 445<|qn<|zo 22<|yo<|qr 1 6<|qc 445<|qn<|zo 28<|yo<|qr 1 7<|qc 445<|qn<|zo 34<|yo<|qr 1 8<|qc 445<|qn<|zo 40<|yo<|qf 1 13<|qg 0<|ql 1<|qc 445<|qn<|zo 46<|yo<|qf 1 13<|qg 1<|ql 1<|qc 445<|qn<|zo 53<|yo<|qf 1 13<|qg 2<|ql 1<|qc 445<|qn<|zo 60<|yo<|qf 1 13<|qg 11<|ql 1<|qc 445<|qn<|zO 67<|qe) 117 (rs 0 (qF 2<|qe) .ret) <| sq (rs 0 (qz 3 0<|qe) <| bk 0 l414_0) <| sq (rs 0 (qz 4 0<|qe) <| bk 2 l414_1) <| rs 167 (qR 1 9 3<|qc 24<|ya<|qf 1 13<|qg 7<|q1 (.load (.v 1) (some 3) (.l 5))<|qc 24<|za 3<|ya<|qf 1 25<|qg 1<|q1 (.load (.v 1) (some 3) (.l 11))<|qc 24<|za 9<|qv 2<|qe) .ret
def F414 : F := mF 1 [.t 2] none c414
attribute [go_sem] c414 F414
def l421_0 : C := .loop [] [0,0,9000] [5] [] (rs 11 (q3 (.bin .lss (.g 10) (.g 9))<|qe) <| sq (cd 11 .skip <| .exit 0) <| sq (bk 1 (rs 12 (q1 (.iad 3 (.g 8) (.g 10))<|qJ 3<|qG 5 z_19<|qs 5 3 2 1<|qe) <| rs 15 (qb 5 3<|qc 455<|q2 14 (.mov (.l 1))<|qx 0<|qy 1<|qw 6<|qD 7<|q1 (.mov (.l 4))<|qe) <| r1 19 (qm 0<|qm 0<|q1 (.nilc (.l 1))<|qg 0<|ql 0<|qm 6<|q1 (.appd 1 (.l 4) (.l 5))<|q1 (.nilc (.l 0))<|qg 0<|qs 0 1 8 6<|qe))) <| r1 28 (q1 (.bin .add (.g 10) (ci 1))<|qv 10<|qe))
def c421 : C := rs 8 (q3 (.mov (.g 1))<|qH false<|q3 (.mov (ci 0))<|qe) <| bk 0 l421_0
def F421 : F := mF 2 [] none c421
attribute [go_sem] c421 F421
def l422_0 : C := .loop [] [0,0,9000] [] [] (rs 11 (q3 (.bin .lss (.g 10) (.g 9))<|qe) <| sq (cd 11 .skip <| .exit 0) <| sq (bk 1 (rs 12 (q1 (.iad 1 (.g 8) (.g 10))<|qj<|qv 5<|qe) <| rs 15 (qm 5<|qc 456<|q2 14 (.mov (.l 1))<|qx 0<|qy 1<|qw 6<|qD 7<|q1 (.mov (.l 4))<|qe) <| r1 19 (qm 0<|qm 0<|q1 (.nilc (.l 1))<|qg 0<|ql 0<|qm 6<|q1 (.appd 1 (.l 4) (.l 5))<|q1 (.nilc (.l 0))<|qg 0<|qs 0 1 8 6<|qe))) <| r1 28 (q1 (.bin .add (.g 10) (ci 1))<|qv 10<|qe))
def c422 : C := rs 8 (q3 (.mov (.g 1))<|qH false<|q3 (.mov (ci 0))<|qe) <| bk 0 l422_0
def F422 : F := mF 2 [] none c422
attribute [go_sem] c422 F422
def l423_1 : C := .loop [] [0,0,9000] [7] [20600,20700,20800] (rs 71 (q3 (.bin .lss (.g 70) (.g 69))<|qe) <| sq (cd 71 .skip <| .exit 2) <| sq (bk 3 (rs 72 (q1 (.iad 5 (.g 68) (.g 70))<|qJ 5<|qG 7 z_2<|qs 7 5 2 1<|qe) <| rs 74 (qm 0<|qR 7 0 3<|q1 (.mks 3 1 z_19 [(0,.l 2)])<|q1 (.rcall 421 [.l 0,.l 3] 0 0 20600)<|qe) <| rs 79 (qm 0<|qr 7 3<|q1 (.rcall 458 [.l 0,.l 2] 0 0 20700)<|qe) <| r1 83 (qm 0<|qr 7 4<|q1 (.mks 1 1 [.str []] [(0,.l 2)])<|q1 (.rcall 457 [.l 0,.l 3] 0 0 20800)<|qe))) <| r1 88 (q1 (.bin .add (.g 70) (ci 1))<|qv 70<|qe))
def l423_0 : C := .loop [] [0,0,9000] [5,7] [20400,20500,20600,20700,20800] (rs 53 (q3 (.bin .lss (.g 52) (.g 51))<|qe) <| sq (cd 53 .skip <| .exit 0) <| sq (bk 1 (rs 54 (q1 (.iad 2 (.g 50) (.g 52))<|qJ 2<|qG 5 z_6<|qs 5 2 2 1<|qe) <| rs 56 (qm 0<|qr 5 0<|q1 (.mks 1 1 [.str []] [(0,.l 2)])<|q1 (.rcall 457 [.l 0,.l 3] 0 0 20400)<|qe) <| rs 61 (qm 0<|qr 5 1<|qh false<|q1 (.mks 1 1 [.int .i64 0] [(0,.l 3)])<|q1 (.rcall 422 [.l 0,.l 4] 0 0 20500)<|qe) <| rs 67 (qf 5 1<|q3 (.load (.v 5) none (.l 0))<|qH false<|q3 (.mov (ci 0))<|qe) <| bk 2 l423_1)) <| r1 89 (q1 (.bin .add (.g 52) (ci 1))<|qv 52<|qe))
def l423_2 : C := .loop [] [0,0,9000] [9] [21000,21100,21200,21300] (rs 100 (q3 (.bin .lss (.g 99) (.g 98))<|qe) <| sq (cd 100 .skip <| .exit 4) <| sq (bk 5 (rs 101 (q1 (.iad 11 (.g 97) (.g 99))<|qJ 11<|qG 9 z_3<|qs 9 11 2 1<|qe) <| rs 103 (qm 0<|qr 9 0<|qr 9 1<|qf 9 2<|qg 0<|ql 9<|q1 (.mks 1 3 [.int .i64 0] [(0,.l 2),(1,.l 4),(2,.l 7)])<|q1 (.rcall 422 [.l 0,.l 8] 0 0 21000)<|qe) <| rs 113 (qm 0<|qf 9 2<|qg 1<|q1 (.load (.v 9) (some 3) (.l 2))<|q1 (.mks 3 1 z_19 [(0,.l 3)])<|q1 (.rcall 421 [.l 0,.l 4] 0 0 21100)<|qe) <| rs 119 (qm 0<|qf 9 2<|qg 4<|ql 9<|q1 (.rcall 458 [.l 0,.l 3] 0 0 21200)<|qe) <| r1 124 (qm 0<|qf 9 2<|qg 5<|ql 9<|q1 (.mks 1 1 [.str []] [(0,.l 3)])<|q1 (.rcall 457 [.l 0,.l 4] 0 0 21300)<|qe))) <| r1 130 (q1 (.bin .add (.g 99) (ci 1))<|qv 99<|qe))
def c423 : C := rs 0 (qB 3 1<|qe) <| rs 10 (qm 0<|qr 3 0<|qr 3 1<|qr 3 4<|qr 3 13<|qr 3 14<|qr 3 15<|qr 3 16<|q1 (.mks 1 7 [.int .i64 0] [(0,.l 2),(1,.l 4),(2,.l 6),(3,.l 8),(4,.l 10),(5,.l 12),(6,.l 14)])<|q1 (.rcall 422 [.l 0,.l 15] 0 0 20000)<|qe) <| rs 27 (qm 0<|qf 3 2<|qg 0<|ql 3<|qf 3 2<|qg 1<|ql 3<|q1 (.mks 1 2 [.str []] [(0,.l 3),(1,.l 6)])<|q1 (.rcall 457 [.l 0,.l 7] 0 0 20100)<|qe) <| rs 36 (qm 0<|qR 3 6 3<|qR 3 9 3<|q1 (.mks 3 2 z_19 [(0,.l 2),(1,.l 4)])<|q1 (.rcall 421 [.l 0,.l 5] 0 0 20200)<|qe) <| rs 43 (qm 0<|qr 3 5<|qh false<|q1 (.mks 1 1 [.int .i64 0] [(0,.l 3)])<|q1 (.rcall 422 [.l 0,.l 4] 0 0 20300)<|qe) <| sq (rs 49 (qf 3 5<|q3 (.load (.v 3) none (.l 0))<|qH false<|q3 (.mov (ci 0))<|qe) <| bk 0 l423_0) <| rs 90 (qm 0<|qr 3 12<|qh false<|q1 (.mks 1 1 [.int .i64 0] [(0,.l 3)])<|q1 (.rcall 422 [.l 0,.l 4] 0 0 20900)<|qe) <| rs 96 (qf 3 12<|q3 (.load (.v 3) none (.l 0))<|qH false<|q3 (.mov (ci 0))<|qe) <| bk 4 l423_2
def F423 : F := mF 2 [] none c423
attribute [go_sem] c423 F423
def l424_0 : C := .loop [] [] [] [] (lq 17 (qm 4<|qr 1 0<|qh false<|qQ .lss 0<|qe) 21 0 <| sq (bk 1 (r1 24 (qm 3<|qr 1 0<|qm 4<|qi 17<|qJ 17<|qc 461<|qq .add 0<|qv 3<|qe))) <| r1 22 (qm 4<|qk .add 1<|qv 4<|qe))
def c424 : C := rs 0 (qB 1 0<|qE 2<|qe) <| rt 5 (qR 1 1 3<|qc 459<|qr 1 4<|qc 460<|qq .add 2<|qr 1 0<|qh false<|qc 460<|qq .add 6<|qv 3<|qe) <| sq (rs 0 (qz 4 0<|qe) <| bk 0 l424_0) <| rs 32 (qm 3<|qv 2<|qe) .ret
def F424 : F := mF 1 [.t 2] none c424
attribute [go_sem] c424 F424
def c425 : C := rs 0 (qG 2 z_7<|qF 3<|qe) <| rs 4 (qm 0<|qc 411<|qx 0<|qy 1<|qt 2 5 2<|qw 3<|qe) .ret
def F425 : F := mF 1 [.cell 2 (some 5),.t 3] none c425
attribute [go_sem] c425 F425
def c426 : C := rs 0 (qB 1 0<|qF 2<|qe) <| rs 3 (qb 1 7<|qc 38<|ya<|qb 1 7<|qc 42<|qn<|za 2<|qv 2<|qe) .ret
def F426 : F := mF 1 [.t 2] none c426
attribute [go_sem] c426 F426
def c427 : C := rs 0 (qB 2 0<|qB 3 1<|qG 4 z_16<|qF 5<|qe) <| rs 7 (qr 2 1<|q1 (.fn 462 [.g 3] [3])<|qd 463<|qv 6<|qe) <| i1 11 (qm 6<|qK .lss 0<|qe) 12 (rs 13 (q1 (.load (.v 3) none (.g 3))<|qr 2 0<|q1 (.build z_4 [(0,1,.l 2)])<|q1 (.build z_16 [(0,1,.l 0),(1,7,.l 3)])<|qt 4 9 4<|qF 5<|qe) .ret) <| rs 18 (qr 2 1<|qm 6<|qi 9<|qJ 9<|qt 4 9 4<|qT 5<|qe) .ret
def F427 : F := mF 2 [.cell 4 (some 9),.t 5] none c427
attribute [go_sem] c427 F427
def l428_0 : C := .loop [] [] [] [] (rs 17 (q3 (.bin .lss (.g 16) (.g 15))<|qe) <| sq (cd 17 .skip <| .exit 0) <| sq (bk 1 (r2 18 (qr 5 0<|qm 4<|q1 (.rcall 467 [.l 2] 0 8 20300)<|q1 (.mks 17 1 z_9 [(0,.l 3)])<|q1 (.app 23 17 (.l 1) (.l 4))<|qf 5 0<|qs 5 1 6 5<|qe))) <| r1 25 (q1 (.bin .add (.g 16) (ci 1))<|qv 16<|qe))
def c428 : C := rs 0 (qG 2 z_7<|qz 3 0<|qe) <| rs 6 (qm 0<|q1 (.build z_20 [(0,1,.l 0)])<|q1 (.box (.l 1))<|qv 4<|qe) <| rs 9 (qm 4<|q1 (.rcall 464 [.l 0] 0 8 20000)<|qm 4<|q1 (.rcall 465 [.l 2] 0 8 20100)<|q1 (.build [.nslice 17,.int .i64 0,.int .i64 0,.int .i64 0,.int .i64 0] [(1,3,.l 1),(4,1,.l 3)])<|qG 5 z_21<|qs 5 5 5 4<|qe) <| sq (rs 14 (qm 4<|q3 (.rcall 466 [.l 0] 0 8 20200)<|q3 (.mov (ci 0))<|qe) <| bk 0 l428_0) <| i1 26 (qm 4<|q1 (.nilc (.l 0))<|qg 1<|ql 8<|yo<|qm 4<|q1 (.nilc (.l 5))<|qg 0<|ql 8<|q1 (.bin .neq (.l 8) (.c (.str [])))<|zo 4<|yo<|qb 5 5<|q1 (.call (.k 249) .borrow none [.l 12])<|qn<|zO 11<|qe) 41 (rs 42 (q1 (.build z_7 [])<|qt 2 5 0<|qz 3 3<|qe) .ret) <| rs 43 (qb 5 5<|qt 2 5 0<|qz 3 0<|qe) .ret
def F428 : F := mF 1 [.cell 2 (some 5),.t 3] none c428
attribute [go_sem] c428 F428
def l429_0 : C := .loop [] [] [7] [] (rs 11 (q3 (.bin .lss (.g 10) (.g 9))<|qe) <| sq (cd 11 .skip <| .exit 0) <| sq (bk 1 (rs 12 (q1 (.iad 7 (.g 8) (.g 10))<|qJ 7<|qG 7 z_5<|qs 7 7 2 1<|qe) <| r1 14 (qm 5<|qr 7 0<|q1 (.bin .add (ci 35) (.l 2))<|qk .sub 1<|qr 7 1<|qr 7 2<|qm 0<|qr 7 3<|qr 7 4<|qr 7 5<|qr 7 6<|q1 (.build z_22 [(0,1,.l 4),(1,1,.l 6),(2,1,.l 8),(7,1,.l 9),(4,1,.l 11),(8,1,.l 13),(35,1,.l 15),(12,1,.l 17)])<|q1 (.mks 36 1 z_22 [(0,.l 18)])<|q1 (.app 5 36 (.l 0) (.l 19))<|qv 5<|qe))) <| r1 35 (q1 (.bin .add (.g 10) (ci 1))<|qv 10<|qe))
def c429 : C := rs 0 (qS 4 36<|qe) <| rs 5 (q3 (.mko 36)<|qe) <| sq (rs 8 (q3 (.mov (.g 1))<|qH false<|q3 (.mov (ci 0))<|qe) <| bk 0 l429_0) <| rs 36 (qm 5<|qv 4<|qe) .ret
def F429 : F := mF 2 [.t 4] (some 0) c429
attribute [go_sem] c429 F429
def c430 : C := rs 0 (qF 2<|qe) <| rs 6 (qm 0<|qc 428<|q2 5 (.mov (.l 1))<|qx 0<|qy 1<|qD 3<|q1 (.alloc z_7)<|qs 3 5 5 3<|q3 (.mov (.l 4))<|qe) <| rs 10 (qm 4<|qk .eql 0<|qv 2<|qe) .ret
def F430 : F := mF 1 [.t 2] none c430
attribute [go_sem] c430 F430
def c431 : C := rs 0 (qB 2 0<|qF 3<|qe) <| rs 4 (qb 2 36<|qc 341<|qn<|yo<|qr 2 1<|qf 1 0<|qj<|qq .neq 5<|zo 3<|qv 3<|qe) .ret
def F431 : F := mF 2 [.t 3] none c431
attribute [go_sem] c431 F431
def c432 : C := rs 0 (qF 4<|qe) <| rs 5 (qm 0<|qm 1<|qd 468<|qk .geq 0<|qv 4<|qe) .ret
def F432 : F := mF 2 [.t 4] none c432
attribute [go_sem] c432 F432
def c434 : C := rs 0 (qG 2 z_19<|qe) <| rs 7 (qm 0<|q1 (.nilc (.l 0))<|qg 0<|ql 0<|qc 469<|q2 6 (.mov (.l 4))<|qx 0<|qy 1<|qY 5 2<|qG 3 z_19<|qs 3 3 9 6<|qV 4 7<|qV 5 8<|qe) <| rs 15 (qm 0<|qm 0<|q1 (.nilc (.l 1))<|qg 1<|ql 0<|yo<|qm 5<|qk .neq 0<|zo 5<|q1 (.nilc (.l 0))<|qg 1<|qs 0 1 10 8<|qe) <| rs 26 (qm 0<|qm 4<|q1 (.nilc (.l 0))<|qg 0<|qs 0 1 3 1<|qe) <| rs 30 (qb 3 3<|qt 2 3 0<|qe) .ret
def F434 : F := mF 1 [.cell 2 (some 3)] none c434
attribute [go_sem] c434 F434
def c435 : C := rs 0 (qz 2 0<|qe) <| rs 7 (qm 0<|q1 (.nilc (.l 0))<|qg 0<|ql 0<|qc 470<|q2 6 (.mov (.l 4))<|qx 0<|qy 1<|qY 5 2<|qV 3 6<|qV 4 7<|qV 5 8<|qe) <| rs 15 (qm 0<|qm 0<|q1 (.nilc (.l 1))<|qg 1<|ql 0<|yo<|qm 5<|qk .neq 0<|zo 5<|q1 (.nilc (.l 0))<|qg 1<|qs 0 1 10 8<|qe) <| rs 26 (qm 0<|qm 4<|q1 (.nilc (.l 0))<|qg 0<|qs 0 1 3 1<|qe) <| rs 30 (qm 3<|qv 2<|qe) .ret
def F435 : F := mF 1 [.t 2] none c435
attribute [go_sem] c435 F435
def l436_1 : C := .loop [] [] [9] [] (lq 66 (qm 8<|qm 7<|qq .lss 0<|ya<|qm 0<|q1 (.nilc (.l 4))<|qg 1<|ql 0<|qn<|zA 3<|qe) 75 2 <| sq (bk 3 (rs 78 (qm 0<|q1 (.rcall 434 [.l 0] 0 0 21400)<|q1 (.build z_2 [(0,3,.l 1)])<|qG 9 z_2<|qs 9 5 3 2<|qe) <| rs 81 (qm 0<|q1 (.rcall 472 [.l 0] 0 0 21500)<|qf 9 3<|qs 9 1 2 1<|qe) <| rs 84 (qm 0<|q1 (.rcall 471 [.l 0] 0 0 21600)<|qf 9 4<|qs 9 1 2 1<|qe) <| r1 87 (qr 6 1<|qb 9 5<|q1 (.mks 5 1 z_2 [(0,.l 2)])<|q1 (.app 91 5 (.l 1) (.l 3))<|qf 6 1<|qs 6 1 5 4<|qe))) <| r1 76 (qm 8<|qk .add 1<|qv 8<|qe))
def l436_0 : C := .loop [] [] [6,9] [91] (lq 49 (qm 5<|qm 4<|qq .lss 0<|ya<|qm 0<|q1 (.nilc (.l 4))<|qg 1<|ql 0<|qn<|zA 3<|qe) 58 0 <| sq (bk 1 (rs 61 (qm 0<|q1 (.rcall 471 [.l 0] 0 0 21200)<|q1 (.build [.str [],.nslice 5] [(0,1,.l 1)])<|qG 6 z_23<|qs 6 2 3 2<|qe) <| rs 64 (qm 0<|q1 (.rcall 435 [.l 0] 0 0 21300)<|qv 7<|qe) <| sq (rs 0 (qz 8 0<|qe) <| bk 2 l436_1) <| r1 93 (qr 3 5<|q1 (.ldf 91 6 2 (.g 6))<|q1 (.mks 2 1 z_6 [(0,.l 2)])<|q1 (.app 97 2 (.l 1) (.l 3))<|qf 3 5<|qs 3 1 5 4<|qe))) <| r1 59 (qm 5<|qk .add 1<|qv 5<|qe))
def l436_2 : C := .loop [] [] [11] [] (lq 101 (qm 10<|qm 4<|qq .lss 0<|ya<|qm 0<|q1 (.nilc (.l 4))<|qg 1<|ql 0<|qn<|zA 3<|qe) 110 4 <| sq (bk 5 (rs 113 (qm 0<|q1 (.rcall 435 [.l 0] 0 0 21800)<|q1 (.build z_3 [(0,1,.l 1)])<|qG 11 z_3<|qs 11 11 3 2<|qe) <| rs 116 (qm 0<|q1 (.rcall 435 [.l 0] 0 0 21900)<|qf 11 1<|qs 11 1 2 1<|qe) <| rs 119 (qm 0<|q1 (.rcall 435 [.l 0] 0 0 22000)<|qf 11 2<|qg 0<|qs 11 1 3 1<|qe) <| rs 123 (qm 0<|q1 (.rcall 434 [.l 0] 0 0 22100)<|qf 11 2<|qg 1<|qs 11 3 3 1<|qe) <| rs 127 (qm 0<|q1 (.rcall 472 [.l 0] 0 0 22200)<|qf 11 2<|qg 4<|qs 11 1 3 1<|qe) <| rs 131 (qm 0<|q1 (.rcall 471 [.l 0] 0 0 22300)<|qf 11 2<|qg 5<|qs 11 1 3 1<|qe) <| r1 135 (qr 3 12<|qb 11 11<|q1 (.mks 11 1 z_3 [(0,.l 2)])<|q1 (.app 139 11 (.l 1) (.l 3))<|qf 3 12<|qs 3 1 5 4<|qe))) <| r1 111 (qm 10<|qk .add 1<|qv 10<|qe))
def c436 : C := rs 0 (qG 2 z_9<|qe) <| rs 12 (qm 0<|q1 (.rcall 435 [.l 0] 0 0 20000)<|q1 (.build [.int .i64 0,.int .i64 0,.str [],.str [],.int .i64 0,.nslice 2,.int .i64 0,.int .i64 0,.int .i64 0,.int .i64 0,.int .i64 0,.int .i64 0,.nslice 11,.int .i64 0,.int .i64 0,.int .i64 0,.int .i64 0] [(0,1,.l 1)])<|qG 3 z_24<|qs 3 17 3 2<|qe) <| rs 15 (qm 0<|q1 (.rcall 435 [.l 0] 0 0 20100)<|qf 3 1<|qs 3 1 2 1<|qe) <| rs 18 (qm 0<|q1 (.rcall 435 [.l 0] 0 0 20200)<|qf 3 4<|qs 3 1 2 1<|qe) <| rs 21 (qm 0<|q1 (.rcall 435 [.l 0] 0 0 20300)<|qf 3 13<|qs 3 1 2 1<|qe) <| rs 24 (qm 0<|q1 (.rcall 435 [.l 0] 0 0 20400)<|qf 3 14<|qs 3 1 2 1<|qe) <| rs 27 (qm 0<|q1 (.rcall 435 [.l 0] 0 0 20500)<|qf 3 15<|qs 3 1 2 1<|qe) <| rs 30 (qm 0<|q1 (.rcall 435 [.l 0] 0 0 20600)<|qf 3 16<|qs 3 1 2 1<|qe) <| rs 33 (qm 0<|q1 (.rcall 471 [.l 0] 0 0 20700)<|qf 3 2<|qg 0<|qs 3 1 3 1<|qe) <| rs 37 (qm 0<|q1 (.rcall 471 [.l 0] 0 0 20800)<|qf 3 2<|qg 1<|qs 3 1 3 1<|qe) <| rs 41 (qm 0<|q1 (.rcall 434 [.l 0] 0 0 20900)<|qf 3 6<|qs 3 3 2 1<|qe) <| rs 44 (qm 0<|q1 (.rcall 434 [.l 0] 0 0 21000)<|qf 3 9<|qs 3 3 2 1<|qe) <| rs 47 (qm 0<|q1 (.rcall 435 [.l 0] 0 0 21100)<|qv 4<|qe) <| sq (rs 0 (qz 5 0<|qe) <| bk 0 l436_0) <| rs 99 (qm 0<|q1 (.rcall 435 [.l 0] 0 0 21700)<|qv 4<|qe) <| sq (rs 0 (qz 10 0<|qe) <| bk 4 l436_2) <| rs 141 (qb 3 17<|qt 2 17 0<|qe) .ret
def F436 : F := mF 1 [.cell 2 (some 17)] none c436
attribute [go_sem] c436 F436
def c439 : C := rs 0 (qB 3 0<|qB 4 1<|qB 5 2<|qG 6 z_22<|qe) <| rs 7 (qr 3 0<|qr 4 1<|qr 4 7<|qf 4 13<|qg 0<|ql 4<|qf 4 13<|qg 1<|ql 4<|q1 (.build z_25 [(0,1,.l 8),(1,1,.l 11)])<|qb 5 9<|q1 (.build z_22 [(0,1,.c (.int .i64 2)),(1,1,.l 1),(2,1,.l 3),(7,1,.l 5),(13,12,.l 12),(25,9,.l 13)])<|qt 6 36 14<|qe) .ret
def F439 : F := mF 3 [.cell 6 (some 36)] none c439
attribute [go_sem] c439 F439
def c440 : C := rs 0 (qB 5 0<|qB 6 1<|qB 7 2<|qB 9 4<|qG 10 z_17<|qS 11 36<|qe) <| rs 18 (qR 7 1 3<|qG 12 z_19<|qs 12 3 2 1<|qe) <| rs 20 (qr 5 0<|qf 12 2<|qs 12 1 2 1<|qe) <| rs 24 (qb 12 3<|q1 (.build z_19 [(0,3,.l 0)])<|qm 3<|qd 474<|q2 23 (.mov (.l 3))<|qx 0<|qy 1<|qY 4 2<|qD 13<|q1 (.alloc z_19)<|q3 (.alloc z_19)<|qs 13 3 8 5<|qs 14 3 9 6<|q3 (.mov (.l 7))<|qe) <| i1 31 (qm 15<|qK .neq 0<|qe) 32 (rt 33 (qb 5 2<|qb 5 2<|qb 9 36<|qm 15<|q1 (.build z_8 [(0,1,.l 3)])<|qC 439 (ls [1,2,4])<|q1 (.mks 36 1 z_22 [(0,.l 5)])<|qt 10 2 0<|qw 11<|qe) .ret) <| rs 41 (qb 7 5<|qr 9 3<|qr 9 4<|qR 9 13 12<|qb 14 3<|qm 3<|qC 240 (ls [0,2,4,6,7,8])<|q2 40 (.mov (.l 9))<|qx 0<|qy 1<|qG 16 z_7<|qG 17 z_8<|qs 16 5 13 11<|qs 17 9 14 12<|qe) <| i1 53 (qr 17 0<|qk .neq 0<|ya<|qr 17 0<|qk .neq 15<|zA 3<|qe) 60 (rt 61 (qb 5 2<|qb 5 2<|qb 9 36<|qb 17 9<|qC 439 (ls [1,2,3])<|q1 (.mks 36 1 z_22 [(0,.l 4)])<|qt 10 2 0<|qw 11<|qe) .ret) <| rt 67 (qb 5 2<|qb 6 9<|qb 16 5<|qb 5 2<|qb 9 36<|qb 17 9<|qC 439 (ls [3,4,5])<|q1 (.mks 36 1 z_22 [(0,.l 6)])<|qC 442 (ls [0,1,2,7])<|qx 0<|qy 1<|qt 10 2 9<|qw 11<|qe) .ret
def F440 : F := mF 5 [.cell 10 (some 2),.t 11] none c440
attribute [go_sem] c440 F440
def c442 : C := rs 0 (qB 4 0<|qB 5 1<|qB 6 2<|qG 8 z_17<|qS 9 36<|qe) <| rs 17 (qb 6 5<|qc 401<|q2 16 (.mov (.l 1))<|qx 0<|qy 1<|qw 10<|qD 11<|q1 (.mov (.l 4))<|qe) <| rs 22 (qR 5 1 7<|qm 10<|qd 47<|q2 21 (.mov (.l 3))<|qx 0<|qy 1<|qY 4 2<|qG 12 z_4<|qs 12 7 8 5<|qV 13 6<|qV 14 7<|qe) <| i1 29 (qm 14<|qK .neq 0<|qe) 30 (rs 31 (qb 4 2<|qt 8 2 0<|qS 9 36<|qe) .ret) <| rs 32 (qr 5 0<|qm 13<|q1 (.call (.k 429) .no (some 0) [.l 1,.l 2])<|qv 15<|qe) <| rs 36 (qb 12 7<|qm 3<|qf 5 1<|qs 5 7 2 0<|qf 5 8<|qs 5 1 4 1<|qe) <| i1 40 (qb 12 7<|qc 41<|qN<|qe) 42 (r1 43 (qm 15<|qm 3<|q1 (.app 35 36 (.l 0) (.l 1))<|qv 15<|qf 5 8<|q5 (.store (.v 5) 1 (.l 4) (.c (.slice 36 [])))<|qe)) <| rs 47 (qb 4 2<|qb 5 9<|qd 473<|qm 15<|qt 8 2 2<|qw 9<|qe) .ret
def F442 : F := mF 4 [.cell 8 (some 2),.t 9] none c442
attribute [go_sem] c442 F442
def c445 : C := rs 0 (qF 2<|qe) <| rs 3 (qm 0<|qk .geq 0<|ya<|qm 0<|qk .leq 1099511627776<|za 2<|qv 2<|qe) .ret
def F445 : F := mF 1 [.t 2] none c445
attribute [go_sem] c445 F445
def c455 : C := rs 0 (qB 1 0<|qE 2<|qz 3 0<|qe) <| i1 4 (qb 1 3<|qc 28<|qN<|qe) 6 (rs 0 (qE 2<|qz 3 1<|qe) .ret) <| rs 7 (qr 1 0<|qr 1 1<|qr 1 2<|q1 (.mks 1 3 [.int .i64 0] [(0,.l 1),(1,.l 3),(2,.l 5)])<|qc 483<|qx 0<|qy 1<|qw 2<|qw 3<|qe) .ret
def F455 : F := mF 1 [.t 2,.t 3] none c455
attribute [go_sem] c455 F455
def l456_0 : C := .loop [] [] [] [] (lq 7 (qm 0<|qK .geq 128<|qe) 8 0 <| bk 1 (rs 9 (qm 4<|qm 0<|q1 (.conv (.int .u8) (.l 1))<|q1 (.bin .or (.l 2) (.c (.int .u8 128)))<|q1 (.mks 1 1 [.int .u8 0] [(0,.l 3)])<|q1 (.app 4 1 (.l 0) (.l 4))<|qv 4<|qe) <| r1 15 (qm 0<|q1 (.sh .shr (.l 0) (.c (.int .u64 7)))<|qv 0<|qe)))
def c456 : C := rs 0 (qE 2<|qz 3 0<|qe) <| i1 5 (qm 0<|qK .lss 0<|qe) 6 (rs 0 (qE 2<|qz 3 1<|qe) .ret) <| rs 4 (q3 (.mko 1)<|qe) <| sq (bk 0 l456_0) <| rs 17 (qm 4<|qm 0<|q1 (.conv (.int .u8) (.l 1))<|q1 (.mks 1 1 [.int .u8 0] [(0,.l 2)])<|q1 (.app 4 1 (.l 0) (.l 3))<|q1 (.b2s (.l 4))<|qv 2<|qz 3 0<|qe) .ret
def F456 : F := mF 1 [.t 2,.t 3] none c456
attribute [go_sem] c456 F456
def l457_0 : C := .loop [] [0,0,9000] [] [] (rs 9 (q3 (.bin .lss (.g 8) (.g 7))<|qe) <| sq (cd 9 .skip <| .exit 0) <| sq (bk 1 (rs 10 (q1 (.iad 1 (.g 6) (.g 8))<|qj<|qv 5<|qe) <| r2 12 (qm 0<|qm 0<|q1 (.nilc (.l 1))<|qg 0<|ql 0<|qm 5<|qc 484<|q1 (.appd 1 (.l 4) (.l 6))<|q1 (.nilc (.l 0))<|qg 0<|qs 0 1 9 7<|qe))) <| r1 22 (q1 (.bin .add (.g 8) (ci 1))<|qv 8<|qe))
def c457 : C := rs 6 (q3 (.mov (.g 1))<|qH false<|q3 (.mov (ci 0))<|qe) <| bk 0 l457_0
def F457 : F := mF 2 [] none c457
attribute [go_sem] c457 F457
def c458 : C := r2 4 (qm 0<|qm 0<|q1 (.nilc (.l 1))<|qg 0<|ql 0<|qm 1<|qc 485<|q1 (.appd 1 (.l 4) (.l 6))<|q1 (.nilc (.l 0))<|qg 0<|qs 0 1 9 7<|qe)
def F458 : F := mF 2 [] none c458
attribute [go_sem] c458 F458
def c459 : C := rs 0 (qB 1 0<|qE 2<|qe) <| rs 3 (qb 1 3<|qc 486<|qv 2<|qe) .ret
def F459 : F := mF 1 [.t 2] none c459
attribute [go_sem] c459 F459
def c460 : C := rs 0 (qE 2<|qe) <| rs 6 (qm 0<|qc 487<|q2 5 (.mov (.l 1))<|qx 0<|qy 1<|qw 3<|qD 4<|q1 (.mov (.l 4))<|qe) <| rs 10 (qm 3<|qv 2<|qe) .ret
def F460 : F := mF 1 [.t 2] none c460
attribute [go_sem] c460 F460
def l461_1 : C := .loop [] [] [] [] (lq 81 (qm 6<|qr 5 1<|qh false<|qQ .lss 0<|qe) 85 2 <| sq (bk 3 (r2 88 (qm 3<|qr 5 1<|qm 6<|qi 5<|qg 0<|qJ 3<|qc 459<|qq .add 0<|qr 5 1<|qm 6<|qi 5<|qg 3<|qj<|qc 489<|qq .add 8<|qr 5 1<|qm 6<|qi 5<|qg 4<|qj<|qc 488<|qq .add 16<|qv 3<|qe))) <| r1 86 (qm 6<|qk .add 1<|qv 6<|qe))
def l461_0 : C := .loop [] [] [5] [] (lq 59 (qm 4<|qr 1 5<|qh false<|qQ .lss 0<|qe) 63 0 <| sq (bk 1 (rs 66 (qr 1 5<|qm 4<|qi 2<|qJ 2<|qG 5 z_6<|qs 5 2 5 4<|qe) <| rt 71 (qm 3<|qr 5 0<|qc 488<|qq .add 0<|qr 5 1<|qh false<|qc 460<|qq .add 4<|qv 3<|qe) <| rs 0 (qz 6 0<|qe) <| bk 2 l461_1)) <| r1 64 (qm 4<|qk .add 1<|qv 4<|qe))
def l461_2 : C := .loop [] [] [8] [] (lq 119 (qm 7<|qr 1 12<|qh false<|qQ .lss 0<|qe) 123 4 <| sq (bk 5 (rs 126 (qr 1 12<|qm 7<|qi 11<|qJ 11<|qG 8 z_3<|qs 8 11 5 4<|qe) <| r2 131 (qm 3<|qr 8 0<|qc 460<|qq .add 0<|qr 8 1<|qc 460<|qq .add 4<|qf 8 2<|qg 0<|ql 8<|qc 460<|qq .add 8<|qf 8 2<|qg 1<|q1 (.load (.v 8) (some 3) (.l 15))<|qc 459<|qq .add 13<|qf 8 2<|qg 4<|ql 8<|qc 489<|qq .add 18<|qf 8 2<|qg 5<|ql 8<|qc 488<|qq .add 23<|qv 3<|qe))) <| r1 124 (qm 7<|qk .add 1<|qv 7<|qe))
def c461 : C := rs 0 (qB 1 0<|qE 2<|qe) <| rt 9 (qr 1 0<|qc 460<|qr 1 1<|qc 460<|qq .add 2<|qr 1 4<|qc 460<|qq .add 6<|qr 1 13<|qc 460<|qq .add 10<|qr 1 14<|qc 460<|qq .add 14<|qr 1 15<|qc 460<|qq .add 18<|qr 1 16<|qc 460<|qq .add 22<|qf 1 2<|qg 0<|ql 1<|qc 488<|qq .add 26<|qf 1 2<|qg 1<|ql 1<|qc 488<|qq .add 31<|qR 1 6 3<|qc 459<|qq .add 36<|qR 1 9 3<|qc 459<|qq .add 40<|qr 1 5<|qh false<|qc 460<|qq .add 44<|qv 3<|qe) <| sq (rs 0 (qz 4 0<|qe) <| bk 0 l461_0) <| rs 113 (qm 3<|qr 1 12<|qh false<|qc 460<|qq .add 0<|qv 3<|qe) <| sq (rs 0 (qz 7 0<|qe) <| bk 4 l461_2) <| rs 160 (qm 3<|qv 2<|qe) .ret
def F461 : F := mF 1 [.t 2] none c461
attribute [go_sem] c461 F461
def c462 : C := rs 0 (qB 2 0<|qF 3<|qe) <| rs 4 (qr 2 0<|q1 (.load (.c) none (.g 1))<|qq .eql 1<|qv 3<|qe) .ret
def F462 : F := mF 2 [.t 3] none c462
attribute [go_sem] c462 F462
def l463_0 : C := .loop [] [] [] [] (rs 9 (q3 (.bin .lss (.g 8) (.g 7))<|qe) <| sq (cd 9 .skip <| .exit 0) <| sq (bk 1 (rs 10 (qm 8<|qv 5<|qe) <| rs 11 (qm 1<|qm 0<|qm 5<|qi 9<|qJ 9<|q3 (.call (.v (.l 0)) .no none [.l 4])<|qe) <| cd 16 (rs 17 (qm 5<|qv 4<|qe) .ret) .skip)) <| r1 18 (q1 (.bin .add (.g 8) (ci 1))<|qv 8<|qe))
def c463 : C := rs 0 (qz 4 0<|qe) <| sq (rs 6 (qm 0<|qH false<|q3 (.mov (ci 0))<|qe) <| bk 0 l463_0) <| rs 0 (qz 4 (-1)<|qe) .ret
def F463 : F := mF 2 [.t 4] none c463
attribute [go_sem] c463 F463
def c464 : C := rs 0 (qG 2 z_19<|qe) <| rs 7 (qm 0<|q1 (.nilc (.l 0))<|qg 0<|ql 0<|qc 490<|q2 6 (.mov (.l 4))<|qx 0<|qy 1<|qY 5 2<|qG 3 z_19<|qs 3 3 9 6<|qV 4 7<|qV 5 8<|qe) <| i1 15 (qm 0<|q1 (.nilc (.l 0))<|qg 1<|ql 0<|yo<|qm 5<|qk .neq 0<|zO 4<|qe) 22 (rs 23 (qm 0<|q1 (.nilc (.l 0))<|qg 1<|q5 (.store (.v 0) 1 (.l 2) (cb true))<|qe) <| rs 26 (q1 (.build z_19 [])<|qt 2 3 0<|qe) .ret) <| rs 27 (qm 0<|qm 4<|q1 (.nilc (.l 0))<|qg 0<|qs 0 1 3 1<|qe) <| rs 31 (qb 3 3<|qt 2 3 0<|qe) .ret
def F464 : F := mF 1 [.cell 2 (some 3)] none c464
attribute [go_sem] c464 F464
def c465 : C := rs 0 (qz 2 0<|qe) <| rs 7 (qm 0<|q1 (.nilc (.l 0))<|qg 0<|ql 0<|qc 491<|q2 6 (.mov (.l 4))<|qx 0<|qy 1<|qY 5 2<|qV 3 6<|qV 4 7<|qV 5 8<|qe) <| i1 15 (qm 0<|q1 (.nilc (.l 0))<|qg 1<|ql 0<|yo<|qm 5<|qk .neq 0<|zO 4<|qe) 22 (rs 23 (qm 0<|q1 (.nilc (.l 0))<|qg 1<|q5 (.store (.v 0) 1 (.l 2) (cb true))<|qe) <| rs 0 (qz 2 0<|qe) .ret) <| rs 26 (qm 0<|qm 4<|q1 (.nilc (.l 0))<|qg 0<|qs 0 1 3 1<|qe) <| rs 30 (qm 3<|qv 2<|qe) .ret
def F465 : F := mF 1 [.t 2] none c465
attribute [go_sem] c465 F465
def c466 : C := rs 0 (qz 2 0<|qe) <| rs 4 (qm 0<|q1 (.rcall 465 [.l 0] 0 0 20000)<|qv 3<|qe) <| i1 6 (qm 3<|qm 0<|q1 (.nilc (.l 1))<|qg 0<|ql 0<|qh true<|qQ .gtr 0<|qe) 12 (rs 13 (qm 0<|q1 (.nilc (.l 0))<|qg 1<|q5 (.store (.v 0) 1 (.l 2) (cb true))<|qe) <| rs 0 (qz 2 0<|qe) .ret) <| rs 16 (qm 3<|qv 2<|qe) .ret
def F466 : F := mF 1 [.t 2] none c466
attribute [go_sem] c466 F466
def l467_1 : C := .loop [] [] [] [] (rs 51 (q3 (.bin .lss (.g 50) (.g 49))<|qe) <| sq (cd 51 .skip <| .exit 2) <| sq (bk 3 (r2 52 (qr 4 1<|qm 0<|q1 (.rcall 464 [.l 2] 0 0 21400)<|qm 0<|q1 (.rcall 493 [.l 4] 0 0 21500)<|qm 0<|q1 (.rcall 492 [.l 6] 0 0 21600)<|q1 (.build z_2 [(0,3,.l 3),(3,1,.l 5),(4,1,.l 7)])<|q1 (.mks 5 1 z_2 [(0,.l 8)])<|q1 (.app 62 5 (.l 1) (.l 9))<|qf 4 1<|qs 4 1 11 10<|qe))) <| r1 64 (q1 (.bin .add (.g 50) (ci 1))<|qv 50<|qe))
def l467_0 : C := .loop [] [] [4] [62] (rs 44 (q3 (.bin .lss (.g 43) (.g 42))<|qe) <| sq (cd 44 .skip <| .exit 0) <| sq (bk 1 (rs 45 (qm 0<|q1 (.rcall 492 [.l 0] 0 0 21200)<|q1 (.build [.str [],.nslice 5] [(0,1,.l 1)])<|qG 4 z_23<|qs 4 2 3 2<|qe) <| sq (rs 48 (qm 0<|q3 (.rcall 466 [.l 0] 0 0 21300)<|q3 (.mov (ci 0))<|qe) <| bk 2 l467_1) <| r1 65 (qr 3 5<|q1 (.ldf 62 4 2 (.g 4))<|q1 (.mks 2 1 z_6 [(0,.l 2)])<|q1 (.app 69 2 (.l 1) (.l 3))<|qf 3 5<|qs 3 1 5 4<|qe))) <| r1 71 (q1 (.bin .add (.g 43) (ci 1))<|qv 43<|qe))
def l467_2 : C := .loop [] [] [5] [] (rs 75 (q3 (.bin .lss (.g 74) (.g 73))<|qe) <| sq (cd 75 .skip <| .exit 4) <| sq (bk 5 (rs 76 (qm 0<|q1 (.rcall 465 [.l 0] 0 0 21800)<|qm 0<|q1 (.rcall 465 [.l 2] 0 0 21900)<|q1 (.build z_3 [(0,1,.l 1),(1,1,.l 3)])<|qG 5 z_3<|qs 5 11 5 4<|qe) <| rs 81 (qm 0<|q1 (.rcall 465 [.l 0] 0 0 22000)<|qm 0<|q1 (.rcall 464 [.l 2] 0 0 22100)<|qm 0<|q1 (.rcall 493 [.l 4] 0 0 22200)<|qm 0<|q1 (.rcall 492 [.l 6] 0 0 22300)<|q1 (.build z_8 [(0,1,.l 1),(1,3,.l 3),(4,1,.l 5),(5,1,.l 7)])<|qf 5 2<|qs 5 9 9 8<|qe) <| r1 91 (qr 3 12<|qb 5 11<|q1 (.mks 11 1 z_3 [(0,.l 2)])<|q1 (.app 95 11 (.l 1) (.l 3))<|qf 3 12<|qs 3 1 5 4<|qe))) <| r1 97 (q1 (.bin .add (.g 74) (ci 1))<|qv 74<|qe))
def c467 : C := rs 0 (qG 2 z_9<|qe) <| rs 0 (qG 3 z_24<|qe) <| rs 6 (qm 0<|q1 (.rcall 465 [.l 0] 0 0 20000)<|qm 0<|q1 (.rcall 465 [.l 2] 0 0 20100)<|qm 0<|q1 (.rcall 465 [.l 4] 0 0 20200)<|qm 0<|q1 (.rcall 465 [.l 6] 0 0 20300)<|qf 3 0<|qs 3 1 8 1<|qf 3 1<|qs 3 1 10 3<|qf 3 4<|qs 3 1 12 5<|qf 3 13<|qs 3 1 14 7<|qe) <| rs 18 (qm 0<|q1 (.rcall 465 [.l 0] 0 0 20400)<|qm 0<|q1 (.rcall 465 [.l 2] 0 0 20500)<|qm 0<|q1 (.rcall 465 [.l 4] 0 0 20600)<|qf 3 14<|qs 3 1 6 1<|qf 3 15<|qs 3 1 8 3<|qf 3 16<|qs 3 1 10 5<|qe) <| rs 27 (qm 0<|q1 (.rcall 492 [.l 0] 0 0 20700)<|qm 0<|q1 (.rcall 492 [.l 2] 0 0 20800)<|qf 3 2<|qg 0<|qs 3 1 5 1<|qf 3 2<|qg 1<|qs 3 1 8 3<|qe) <| rs 35 (qm 0<|q1 (.rcall 464 [.l 0] 0 0 20900)<|qm 0<|q1 (.rcall 464 [.l 2] 0 0 21000)<|qf 3 6<|qs 3 3 4 1<|qf 3 9<|qs 3 3 6 3<|qe) <| sq (rs 41 (qm 0<|q3 (.rcall 466 [.l 0] 0 0 21100)<|q3 (.mov (ci 0))<|qe) <| bk 0 l467_0) <| sq (rs 72 (qm 0<|q3 (.rcall 466 [.l 0] 0 0 21700)<|q3 (.mov (ci 0))<|qe) <| bk 4 l467_2) <| rs 98 (qb 3 17<|qt 2 17 0<|qe) .ret
def F467 : F := mF 1 [.cell 2 (some 17)] none c467
attribute [go_sem] c467 F467
def l468_0 : C := .loop [] [] [] [] (rs 9 (q3 (.bin .lss (.g 8) (.g 7))<|qe) <| sq (cd 9 .skip <| .exit 0) <| sq (bk 1 (rs 10 (qm 8<|qv 5<|qe) <| rs 11 (qm 1<|qm 0<|qm 5<|qi 36<|qJ 36<|q3 (.call (.v (.l 0)) .no none [.l 4])<|qe) <| cd 16 (rs 17 (qm 5<|qv 4<|qe) .ret) .skip)) <| r1 18 (q1 (.bin .add (.g 8) (ci 1))<|qv 8<|qe))
def c468 : C := rs 0 (qz 4 0<|qe) <| sq (rs 6 (qm 0<|qH false<|q3 (.mov (ci 0))<|qe) <| bk 0 l468_0) <| rs 0 (qz 4 (-1)<|qe) .ret
def F468 : F := mF 2 [.t 4] none c468
attribute [go_sem] c468 F468
def c469 : C := rs 0 (qG 2 z_19<|qE 3<|qz 4 0<|qe) <| rs 11 (qm 0<|qc 470<|q2 10 (.mov (.l 1))<|qx 0<|qy 1<|qY 2 2<|qV 5 3<|qV 0 4<|qV 6 5<|qe) <| i1 16 (qm 6<|qK .neq 0<|qe) 17 (rs 18 (q1 (.build z_19 [])<|qm 6<|qt 2 3 0<|qE 3<|qV 4 1<|qe) .ret) <| rs 21 (qm 0<|qc 470<|q2 20 (.mov (.l 1))<|qx 0<|qy 1<|qY 2 2<|qV 7 3<|qV 0 4<|qV 6 5<|qe) <| i1 26 (qm 6<|qK .neq 0<|qe) 27 (rs 28 (q1 (.build z_19 [])<|qm 6<|qt 2 3 0<|qE 3<|qV 4 1<|qe) .ret) <| rs 31 (qm 0<|qc 470<|q2 30 (.mov (.l 1))<|qx 0<|qy 1<|qY 2 2<|qV 8 3<|qV 0 4<|qV 6 5<|qe) <| i1 36 (qm 6<|qK .neq 0<|qe) 37 (rs 38 (q1 (.build z_19 [])<|qm 6<|qt 2 3 0<|qE 3<|qV 4 1<|qe) .ret) <| rs 40 (qm 5<|qm 7<|qm 8<|q1 (.build z_19 [(0,1,.l 0),(1,1,.l 1),(2,1,.l 2)])<|qG 9 z_19<|qs 9 3 4 3<|qe) <| i1 44 (qb 9 3<|qc 24<|qN<|qe) 46 (rs 47 (q1 (.build z_19 [])<|qt 2 3 0<|qE 3<|qz 4 3<|qe) .ret) <| rs 48 (qb 9 3<|qm 0<|qt 2 3 0<|qw 3<|qz 4 0<|qe) .ret
def F469 : F := mF 1 [.cell 2 (some 3),.t 3,.t 4] none c469
attribute [go_sem] c469 F469
def l470_0 : C := .loop [] [] [] [] (lq 10 (qm 5<|qm 0<|qh true<|qq .lss 0<|ya<|qm 0<|qm 5<|q1 (.idx (.l 5) (.l 6))<|q1 (.bin .geq (.l 7) (.c (.int .u8 128)))<|zA 4<|qe) 19 0 <| bk 1 (r1 20 (qm 5<|qk .add 1<|qv 5<|qe)))
def l470_1 : C := .loop [] [] [] [] (lq 29 (qm 7<|qK .geq 0<|qe) 30 2 <| sq (bk 3 (r1 33 (qm 6<|q1 (.bin .mul (ci 128) (.l 0))<|qm 0<|qm 7<|q1 (.idx (.l 2) (.l 3))<|q1 (.conv (.int .i64) (.l 4))<|qk .rem 128<|qq .add 1<|qv 6<|qe))) <| r1 31 (qm 7<|qk .sub 1<|qv 7<|qe))
def c470 : C := rs 0 (qz 2 0<|qE 3<|qz 4 0<|qe) <| rs 0 (qz 5 0<|qe) <| sq (bk 0 l470_0) <| i1 22 (qm 5<|qm 0<|qh true<|qQ .eql 0<|qe) 25 (rs 0 (qz 2 0<|qE 3<|qz 4 2<|qe) .ret) <| i1 26 (qm 5<|qK .gtr 8<|qe) 27 (rs 0 (qz 2 0<|qE 3<|qz 4 3<|qe) .ret) <| rs 0 (qz 6 0<|qe) <| sq (rs 28 (qm 5<|qv 7<|qe) <| bk 2 l470_1) <| rs 42 (qm 6<|qc 487<|q2 41 (.mov (.l 1))<|qx 0<|qy 1<|qw 8<|qD 9<|q1 (.mov (.l 4))<|qe) <| i1 46 (qm 8<|qm 0<|qm 5<|qk .add 1<|q1 (.sl true 0 (.l 1) none (some (.l 3)))<|qQ .neq 0<|qe) 51 (rs 0 (qz 2 0<|qE 3<|qz 4 3<|qe) .ret) <| rt 52 (qm 6<|qm 0<|qm 5<|qk .add 1<|q1 (.sl true 0 (.l 1) (some (.l 3)) none)<|qV 2 0<|qw 3<|qz 4 0<|qe) .ret
def F470 : F := mF 1 [.t 2,.t 3,.t 4] none c470
attribute [go_sem] c470 F470
def c471 : C := rs 0 (qE 2<|qe) <| rs 7 (qm 0<|q1 (.nilc (.l 0))<|qg 0<|ql 0<|qc 494<|q2 6 (.mov (.l 4))<|qx 0<|qy 1<|qY 5 2<|qV 3 6<|qV 4 7<|qV 5 8<|qe) <| rs 15 (qm 0<|qm 0<|q1 (.nilc (.l 1))<|qg 1<|ql 0<|yo<|qm 5<|qk .neq 0<|zo 5<|q1 (.nilc (.l 0))<|qg 1<|qs 0 1 10 8<|qe) <| rs 26 (qm 0<|qm 4<|q1 (.nilc (.l 0))<|qg 0<|qs 0 1 3 1<|qe) <| rs 30 (qm 3<|qv 2<|qe) .ret
def F471 : F := mF 1 [.t 2] none c471
attribute [go_sem] c471 F471
def c472 : C := rs 0 (qF 2<|qe) <| rs 7 (qm 0<|q1 (.nilc (.l 0))<|qg 0<|ql 0<|qc 495<|q2 6 (.mov (.l 4))<|qx 0<|qy 1<|qY 5 2<|qV 3 6<|qV 4 7<|qV 5 8<|qe) <| rs 15 (qm 0<|qm 0<|q1 (.nilc (.l 1))<|qg 1<|ql 0<|yo<|qm 5<|qk .neq 0<|zo 5<|q1 (.nilc (.l 0))<|qg 1<|qs 0 1 10 8<|qe) <| rs 26 (qm 0<|qm 4<|q1 (.nilc (.l 0))<|qg 0<|qs 0 1 3 1<|qe) <| rs 30 (qm 3<|qv 2<|qe) .ret
def F472 : F := mF 1 [.t 2] none c472
attribute [go_sem] c472 F472
def c473 : C := rs 0 (qB 2 0<|qB 3 1<|qG 4 z_17<|qe) <| rs 6 (qr 2 1<|q1 (.fn 496 [.g 3] [3])<|q1 (.call (.k 463) .borrow none [.l 1,.l 2])<|qv 5<|qe) <| rs 10 (qr 2 1<|q1 (.call (.k 497) .freeze (some 0) [.l 1])<|qf 2 1<|qs 2 1 3 2<|qe) <| sq (bk 0 (rs 22 (qm 5<|qk .lss 0<|qv 21<|qe) <| cd 21 (r1 24 (qr 2 1<|qb 3 9<|q1 (.mks 9 1 z_16 [(0,.l 2)])<|q1 (.app 12 9 (.l 1) (.l 3))<|qf 2 1<|qs 2 1 5 4<|qe)) <| rt 31 (qr 2 1<|qm 5<|qi 9<|qg 0<|q1 (.load (.e 12) none (.l 4))<|qr 3 0<|qq .eql 5<|qv 30<|qe) <| cd 30 (r1 40 (qr 2 1<|qm 5<|qb 3 9<|q1 (.iad 9 (.l 1) (.l 2))<|q5 (.store (.e 12) 9 (.l 4) (.l 3))<|qe)) <| r1 14 (qr 2 1<|qm 5<|qb 3 9<|q1 (.mks 9 1 z_16 [(0,.l 3)])<|q1 (.ins 498 12 9 (.l 1) (.l 2) (.l 4))<|qf 2 1<|qs 2 1 6 5<|qe))) <| rs 45 (qb 2 2<|qt 4 2 0<|qe) .ret
def F473 : F := mF 2 [.cell 4 (some 2)] none c473
attribute [go_sem] c473 F473
def c474 : C := rs 0 (qB 2 0<|qG 4 z_19<|qG 5 z_19<|qz 6 0<|qe) <| i1 7 (qb 2 3<|qm 1<|qd 499<|qN<|qe) 10 (rs 11 (q1 (.build z_19 [])<|q1 (.build z_19 [])<|qt 4 3 0<|qt 5 3 1<|qz 6 1<|qe) .ret) <| sq (bk 0 (rs 20 (qm 1<|qf 2 0<|qg 0<|ql 2<|qq .gtr 0<|qv 19<|qe) <| cd 19 (r1 25 (qm 1<|qf 2 0<|qg 0<|qs 2 1 2 0<|qf 2 0<|qg 1<|qu 2 5 0<|qe)) <| rs 31 (qf 2 0<|qg 1<|ql 2<|qk .eql 1048576<|qv 30<|qe) <| cd 30 (rs 35 (q1 (.build z_19 [])<|q1 (.build z_19 [])<|qt 4 3 0<|qt 5 3 1<|qz 6 6<|qe) .ret) <| r1 13 (qf 2 0<|qg 1<|ql 2<|qk .add 1<|qf 2 0<|qg 1<|qs 2 1 5 3<|qe))) <| rt 37 (qb 2 3<|qR 2 0 3<|qt 4 3 0<|qt 5 3 2<|qz 6 0<|qe) .ret
def F474 : F := mF 2 [.cell 4 (some 3),.cell 5 (some 3),.t 6] none c474
attribute [go_sem] c474 F474
def l483_0 : C := .loop [] [] [] [] (rs 12 (q3 (.bin .lss (.g 11) (.g 10))<|qe) <| sq (cd 12 .skip <| .exit 0) <| sq (bk 1 (rs 13 (q1 (.iad 1 (.g 9) (.g 11))<|qj<|qv 6<|qe) <| rs 16 (qm 6<|qc 456<|q2 15 (.mov (.l 1))<|qx 0<|qy 1<|qw 7<|qw 8<|qe) <| i1 20 (qm 8<|qK .neq 0<|qe) 21 (rs 22 (qm 8<|qE 2<|qw 3<|qe) .ret) <| r1 23 (qm 4<|qm 7<|q1 (.app 4 1 (.l 0) (.l 1))<|qv 4<|qe))) <| r1 26 (q1 (.bin .add (.g 11) (ci 1))<|qv 11<|qe))
def c483 : C := rs 0 (qE 2<|qz 3 0<|qe) <| rs 4 (q3 (.mko 1)<|qe) <| sq (rs 9 (q3 (.mov (.g 0))<|qH false<|q3 (.mov (ci 0))<|qe) <| bk 0 l483_0) <| rs 27 (qm 4<|q1 (.b2s (.l 0))<|qv 2<|qz 3 0<|qe) .ret
def F483 : F := mF 1 [.t 2,.t 3] none c483
attribute [go_sem] c483 F483
def c484 : C := rs 0 (qE 2<|qe) <| rs 6 (qm 0<|qh true<|qc 456<|q2 5 (.mov (.l 2))<|qx 0<|qy 1<|qw 3<|qD 4<|q1 (.mov (.l 5))<|qe) <| rs 11 (qm 3<|qm 0<|qq .add 0<|qv 2<|qe) .ret
def F484 : F := mF 1 [.t 2] none c484
attribute [go_sem] c484 F484
def c485 : C := rs 0 (qE 2<|qe) <| i1 3 (q3 (.mov (.g 0))<|qe) 3 (rs 2 (q3 (.mov (.c (.str [1])))<|qe) .ret) <| rs 2 (q3 (.mov (.c (.str [0])))<|qe) .ret
def F485 : F := mF 1 [.t 2] none c485
attribute [go_sem] c485 F485
def c486 : C := rs 0 (qB 1 0<|qE 2<|qe) <| rs 10 (qr 1 0<|qc 487<|q2 9 (.mov (.l 2))<|qx 0<|qy 1<|qw 3<|qD 4<|q1 (.mov (.l 5))<|qe) <| rs 16 (qr 1 1<|qc 487<|q2 15 (.mov (.l 2))<|qx 0<|qy 1<|qw 5<|qD 6<|q1 (.mov (.l 5))<|qe) <| rs 22 (qr 1 2<|qc 487<|q2 21 (.mov (.l 2))<|qx 0<|qy 1<|qw 7<|qD 8<|q1 (.mov (.l 5))<|qe) <| rs 27 (qm 3<|qm 5<|qq .add 0<|qm 7<|qq .add 2<|qv 2<|qe) .ret
def F486 : F := mF 1 [.t 2] none c486
attribute [go_sem] c486 F486
def l487_0 : C := .loop [] [] [] [] (lq 12 (qm 6<|qm 4<|qh false<|qQ .lss 0<|qe) 15 0 <| sq (bk 1 (rs 18 (qm 4<|qm 6<|qi 1<|qj<|qv 7<|qe) <| i1 22 (qm 6<|qm 4<|qh false<|qk .sub 1<|qQ .lss 0<|qe) 26 (r1 27 (qm 7<|qk .add 128<|qv 7<|qe)) <| r1 29 (qm 5<|qm 7<|q1 (.conv (.int .u8) (.l 1))<|q1 (.mks 1 1 [.int .u8 0] [(0,.l 2)])<|q1 (.b2s (.l 3))<|qq .add 0<|qv 5<|qe))) <| r1 16 (qm 6<|qk .add 1<|qv 6<|qe))
def c487 : C := rs 0 (qE 2<|qz 3 0<|qe) <| i1 8 (qm 0<|qK .lss 0<|qe) 9 (rs 0 (qE 2<|qz 3 1<|qe) .ret) <| rs 10 (qm 0<|qc 502<|qv 4<|qe) <| rs 0 (qE 5<|qe) <| sq (rs 0 (qz 6 0<|qe) <| bk 0 l487_0) <| rs 35 (qm 5<|qv 2<|qz 3 0<|qe) .ret
def F487 : F := mF 1 [.t 2,.t 3] none c487
attribute [go_sem] c487 F487
def c488 : C := rs 0 (qE 2<|qe) <| rs 3 (qm 0<|qc 503<|qv 2<|qe) .ret
def F488 : F := mF 1 [.t 2] none c488
attribute [go_sem] c488 F488
def c489 : C := rs 0 (qE 2<|qe) <| rs 3 (qm 0<|qc 504<|qv 2<|qe) .ret
def F489 : F := mF 1 [.t 2] none c489
attribute [go_sem] c489 F489
def l490_0 : C := .loop [] [] [] [] (rs 12 (q3 (.bin .lss (.g 11) (ci 3))<|qe) <| sq (cd 12 .skip <| .exit 0) <| sq (bk 1 (rs 13 (qm 11<|qv 6<|qe) <| rs 15 (qm 0<|qc 491<|q2 14 (.mov (.l 1))<|qx 0<|qy 1<|qY 2 2<|qV 7 3<|qV 8 4<|qV 9 5<|qe) <| i1 20 (qm 9<|qK .neq 0<|qe) 21 (rs 22 (q1 (.build z_19 [])<|qm 9<|qt 2 3 0<|qE 3<|qV 4 1<|qe) .ret) <| r1 24 (qm 6<|qm 7<|qm 8<|q1 (.iada 1 3 (.g 5) (.l 0))<|qs 5 1 3 1<|qV 0 2<|qe))) <| r1 28 (q1 (.bin .add (.g 11) (ci 1))<|qv 11<|qe))
def c490 : C := rs 0 (qG 2 z_19<|qE 3<|qz 4 0<|qe) <| rs 0 (qG 5 z_19<|qe) <| sq (rs 0 (qz 11 0<|qe) <| bk 0 l490_0) <| rs 29 (q1 (.iada 1 3 (.g 5) (ci 0))<|ql 5<|q1 (.iada 1 3 (.g 5) (ci 1))<|ql 5<|q1 (.iada 1 3 (.g 5) (ci 2))<|ql 5<|q1 (.build z_19 [(0,1,.l 1),(1,1,.l 3),(2,1,.l 5)])<|qG 10 z_19<|qs 10 3 7 6<|qe) <| i1 36 (qb 10 3<|qc 28<|qN<|qe) 38 (rs 39 (q1 (.build z_19 [])<|qt 2 3 0<|qE 3<|qz 4 3<|qe) .ret) <| rs 40 (qb 10 3<|qm 0<|qt 2 3 0<|qw 3<|qz 4 0<|qe) .ret
def F490 : F := mF 1 [.cell 2 (some 3),.t 3,.t 4] none c490
attribute [go_sem] c490 F490
def l491_0 : C := .loop [] [] [] [] (rs 11 (q3 (.bin .lss (.g 10) (.g 9))<|qe) <| sq (cd 11 .skip <| .exit 0) <| sq (bk 1 (rs 12 (qm 10<|qv 6<|qe) <| rs 13 (qm 0<|qm 6<|q1 (.idx (.l 0) (.l 1))<|q1 (.bin .and (.l 2) (.c (.int .u8 127)))<|q1 (.conv (.int .i64) (.l 3))<|qv 7<|qe) <| bk 2 (rs 29 (qm 6<|qk .gtr 8<|ya<|qm 0<|qm 6<|q1 (.idx (.l 3) (.l 4))<|q1 (.bin .geq (.l 5) (.c (.int .u8 128)))<|yo<|qm 7<|qk .gtr 0<|y1 2<|qo 7<|za 2<|qv 28<|qe) <| cd 28 (rs 41 (qm 0<|qc 505<|qz 2 0<|qE 3<|qV 4 1<|qe) .ret) <| rs 44 (qm 0<|qm 6<|q1 (.idx (.l 0) (.l 1))<|q1 (.bin .geq (.l 2) (.c (.int .u8 128)))<|qv 43<|qe) <| cd 43 (r1 48 (qm 5<|qm 7<|qm 6<|q1 (.bin .mul (ci 7) (.l 2))<|q1 (.sh .shl (.l 1) (.l 3))<|qq .or 0<|qv 5<|qe)) <| rs 55 (qm 7<|qk .eql 0<|ya<|qm 6<|qk .gtr 0<|za 2<|qv 54<|qe) <| cd 54 (rs 0 (qz 2 0<|qE 3<|qz 4 3<|qe) .ret) <| rt 18 (qm 5<|qm 7<|qm 6<|q1 (.bin .mul (ci 7) (.l 2))<|q1 (.sh .shl (.l 1) (.l 3))<|qq .or 0<|qm 0<|qm 6<|qk .add 1<|q1 (.sl true 0 (.l 6) (some (.l 8)) none)<|qV 2 5<|qw 3<|qz 4 0<|qe) .ret))) <| r1 61 (q1 (.bin .add (.g 10) (ci 1))<|qv 10<|qe))
def c491 : C := rs 0 (qz 2 0<|qE 3<|qz 4 0<|qe) <| rs 0 (qz 5 0<|qe) <| sq (rs 8 (qm 0<|qH true<|q3 (.mov (ci 0))<|qe) <| bk 0 l491_0) <| rs 0 (qz 2 0<|qE 3<|qz 4 2<|qe) .ret
def F491 : F := mF 1 [.t 2,.t 3,.t 4] none c491
attribute [go_sem] c491 F491
def c492 : C := rs 0 (qE 2<|qe) <| rs 7 (qm 0<|q1 (.nilc (.l 0))<|qg 0<|ql 0<|qc 506<|q2 6 (.mov (.l 4))<|qx 0<|qy 1<|qY 5 2<|qV 3 6<|qV 4 7<|qV 5 8<|qe) <| i1 15 (qm 0<|q1 (.nilc (.l 0))<|qg 1<|ql 0<|yo<|qm 5<|qk .neq 0<|zO 4<|qe) 22 (rs 23 (qm 0<|q1 (.nilc (.l 0))<|qg 1<|q5 (.store (.v 0) 1 (.l 2) (cb true))<|qe) <| rs 0 (qE 2<|qe) .ret) <| rs 26 (qm 0<|qm 4<|q1 (.nilc (.l 0))<|qg 0<|qs 0 1 3 1<|qe) <| rs 30 (qm 3<|qv 2<|qe) .ret
def F492 : F := mF 1 [.t 2] none c492
attribute [go_sem] c492 F492
def c493 : C := rs 0 (qF 2<|qe) <| rs 7 (qm 0<|q1 (.nilc (.l 0))<|qg 0<|ql 0<|qc 507<|q2 6 (.mov (.l 4))<|qx 0<|qy 1<|qY 5 2<|qV 3 6<|qV 4 7<|qV 5 8<|qe) <| i1 15 (qm 0<|q1 (.nilc (.l 0))<|qg 1<|ql 0<|yo<|qm 5<|qk .neq 0<|zO 4<|qe) 22 (rs 23 (qm 0<|q1 (.nilc (.l 0))<|qg 1<|q5 (.store (.v 0) 1 (.l 2) (cb true))<|qe) <| rs 0 (qF 2<|qe) .ret) <| rs 26 (qm 0<|qm 4<|q1 (.nilc (.l 0))<|qg 0<|qs 0 1 3 1<|qe) <| rs 30 (qm 3<|qv 2<|qe) .ret
def F493 : F := mF 1 [.t 2] none c493
attribute [go_sem] c493 F493
def c494 : C := rs 0 (qE 2<|qE 3<|qz 4 0<|qe) <| rs 9 (qm 0<|qc 470<|q2 8 (.mov (.l 1))<|qx 0<|qy 1<|qY 2 2<|qV 5 3<|qV 6 4<|qV 7 5<|qe) <| i1 14 (qm 7<|qK .neq 0<|qe) 15 (rs 16 (qm 7<|qE 2<|qE 3<|qV 4 0<|qe) .ret) <| i1 17 (qm 5<|qm 6<|qh true<|qQ .gtr 0<|qe) 20 (rs 0 (qE 2<|qE 3<|qz 4 2<|qe) .ret) <| rt 21 (qm 6<|qm 5<|q1 (.sl true 0 (.l 0) none (some (.l 1)))<|qm 6<|qm 5<|q1 (.sl true 0 (.l 3) (some (.l 4)) none)<|qV 2 2<|qw 3<|qz 4 0<|qe) .ret
def F494 : F := mF 1 [.t 2,.t 3,.t 4] none c494
attribute [go_sem] c494 F494
def c495 : C := rs 0 (qF 2<|qE 3<|qz 4 0<|qe) <| i1 5 (qm 0<|qh true<|qK .eql 0<|qe) 7 (rs 0 (qF 2<|qE 3<|qz 4 2<|qe) .ret) <| i1 8 (qm 0<|q1 (.idx (.l 0) (ci 0))<|q3 (.bin .gtr (.l 1) (.c (.int .u8 1)))<|qe) 10 (rs 0 (qF 2<|qE 3<|qz 4 3<|qe) .ret) <| rt 11 (qm 0<|q1 (.idx (.l 0) (ci 0))<|q1 (.bin .eql (.l 1) (.c (.int .u8 1)))<|qm 0<|q1 (.sl true 0 (.l 3) (some (ci 1)) none)<|qV 2 2<|qw 3<|qz 4 0<|qe) .ret
def F495 : F := mF 1 [.t 2,.t 3,.t 4] none c495
attribute [go_sem] c495 F495
def c496 : C := rs 0 (qB 2 0<|qF 3<|qe) <| rs 4 (qr 2 0<|qf 1 0<|qj<|qq .geq 1<|qv 3<|qe) .ret
def F496 : F := mF 2 [.t 3] none c496
attribute [go_sem] c496 F496
def c499 : C := rs 0 (qB 2 0<|qF 4<|qe) <| rs 5 (qR 2 0 3<|qc 28<|ya<|qm 1<|qk .geq 0<|za 3<|ya<|qm 1<|qk .leq 1099511627776<|za 7<|qv 4<|qe) .ret
def F499 : F := mF 2 [.t 4] none c499
attribute [go_sem] c499 F499
def l502_0 : C := .loop [] [] [] [] (lq 9 (qm 0<|qK .gtr 0<|qe) 10 0 <| bk 1 (rs 11 (qm 3<|qm 0<|qk .rem 128<|q1 (.mks 1 1 [.int .i64 0] [(0,.l 2)])<|q1 (.app 6 1 (.l 0) (.l 3))<|qv 3<|qe) <| r1 16 (qm 0<|qk .quo 128<|qv 0<|qe)))
def c502 : C := rs 0 (qS 2 1<|qe) <| rs 4 (qm 0<|qk .rem 128<|q1 (.mkb 1 1 [.int .i64 0] [(0,.l 1)])<|qv 3<|qe) <| rs 7 (qm 0<|qk .quo 128<|qv 0<|qe) <| sq (bk 0 l502_0) <| rs 18 (qm 3<|qv 2<|qe) .ret
def F502 : F := mF 1 [.t 2] none c502
attribute [go_sem] c502 F502
def c503 : C := rs 0 (qE 2<|qe) <| rs 6 (qm 0<|qh true<|qc 487<|q2 5 (.mov (.l 2))<|qx 0<|qy 1<|qw 3<|qD 4<|q1 (.mov (.l 5))<|qe) <| rs 11 (qm 3<|qm 0<|qq .add 0<|qv 2<|qe) .ret
def F503 : F := mF 1 [.t 2] none c503
attribute [go_sem] c503 F503
def c504 : C := rs 0 (qE 2<|qe) <| i1 3 (q3 (.mov (.g 0))<|qe) 3 (rs 4 (q1 (.mks 1 1 [.int .u8 0] [(0,.c (.int .u8 1))])<|q1 (.b2s (.l 0))<|qv 2<|qe) .ret) <| rs 6 (q1 (.mks 1 1 [.int .u8 0] [(0,.c (.int .u8 0))])<|q1 (.b2s (.l 0))<|qv 2<|qe) .ret
def F504 : F := mF 1 [.t 2] none c504
attribute [go_sem] c504 F504
def l505_0 : C := .loop [] [] [] [] (rs 7 (q3 (.bin .lss (.g 6) (.g 5))<|qe) <| sq (cd 7 .skip <| .exit 0) <| sq (bk 1 (rs 8 (qm 6<|qv 3<|qe) <| rs 9 (qm 0<|qm 3<|q1 (.idx (.l 0) (.l 1))<|q3 (.bin .lss (.l 2) (.c (.int .u8 128)))<|qe) <| cd 12 (rs 0 (qz 2 3<|qe) .ret) .skip)) <| r1 13 (q1 (.bin .add (.g 6) (ci 1))<|qv 6<|qe))
def c505 : C := rs 0 (qz 2 0<|qe) <| sq (rs 4 (qm 0<|qH true<|q3 (.mov (ci 0))<|qe) <| bk 0 l505_0) <| rs 0 (qz 2 2<|qe) .ret
def F505 : F := mF 1 [.t 2] none c505
attribute [go_sem] c505 F505
def c506 : C := rs 0 (qE 2<|qE 3<|qz 4 0<|qe) <| rs 9 (qm 0<|qc 491<|q2 8 (.mov (.l 1))<|qx 0<|qy 1<|qY 2 2<|qV 5 3<|qV 6 4<|qV 7 5<|qe) <| i1 14 (qm 7<|qK .neq 0<|qe) 15 (rs 16 (qm 7<|qE 2<|qE 3<|qV 4 0<|qe) .ret) <| i1 17 (qm 6<|qh true<|qm 5<|qQ .lss 1<|qe) 20 (rs 0 (qE 2<|qE 3<|qz 4 2<|qe) .ret) <| rt 21 (qm 6<|qm 5<|q1 (.sl true 0 (.l 0) none (some (.l 1)))<|qm 6<|qm 5<|q1 (.sl true 0 (.l 3) (some (.l 4)) none)<|qV 2 2<|qw 3<|qz 4 0<|qe) .ret
def F506 : F := mF 1 [.t 2,.t 3,.t 4] none c506
attribute [go_sem] c506 F506
def c507 : C := rs 0 (qF 2<|qE 3<|qz 4 0<|qe) <| sq (bk 0 (rs 6 (qm 0<|q1 (.bin .eql (.l 0) (.c (.str [])))<|qv 5<|qe) <| cd 5 (rs 0 (qF 2<|qE 3<|qz 4 2<|qe) .ret) <| rs 9 (qm 0<|q1 (.idx (.l 0) (ci 0))<|q1 (.bin .gtr (.l 1) (.c (.int .u8 1)))<|qv 8<|qe) <| cd 8 (rs 0 (qF 2<|qE 3<|qz 4 3<|qe) .ret) .skip)) <| rt 12 (qm 0<|q1 (.idx (.l 0) (ci 0))<|q1 (.bin .eql (.l 1) (.c (.int .u8 1)))<|qm 0<|q1 (.sl true 0 (.l 3) (some (ci 1)) none)<|qV 2 2<|qw 3<|qz 4 0<|qe) .ret
def F507 : F := mF 1 [.t 2,.t 3,.t 4] none c507
attribute [go_sem] c507 F507
def c519 : C := rs 0 (qF 2<|qe) <| i1 11 (qm 0<|qh true<|qK .gtr 4096<|qe) 13 (rs 14 (q0 510<|qv 2<|qe) .ret) <| rs 16 (qm 0<|qc 512<|q2 15 (.mov (.l 1))<|qx 0<|qy 1<|qG 3 z_17<|qs 3 2 5 3<|qV 4 4<|qe) <| rs 21 (qm 0<|qc 520<|q2 20 (.mov (.l 1))<|qx 0<|qy 1<|qG 5 z_17<|qs 5 2 5 3<|qV 6 4<|qe) <| rs 26 (qm 0<|qc 517<|q2 25 (.mov (.l 1))<|qx 0<|qy 1<|qG 7 z_13<|qs 7 29 5 3<|qV 8 4<|qe) <| rs 31 (qm 0<|qc 521<|q2 30 (.mov (.l 1))<|qx 0<|qy 1<|qG 9 z_13<|qs 9 29 5 3<|qV 10 4<|qe) <| i1 35 (qm 4<|qk .eql 0<|qm 6<|q1 (.eqb true (.l 1) (.l 2))<|yo<|qm 8<|qk .eql 0<|qm 10<|q1 (.eqb true (.l 6) (.l 7))<|zo 4<|yo<|qm 4<|qk .neq 0<|ya<|qm 4<|qk .neq 3<|y0 10<|qa 13<|zo 10<|yo<|qm 8<|qk .neq 0<|ya<|qm 8<|qk .neq 3<|y0 18<|qa 21<|zO 18<|qe) 60 (rs 0 (qF 2<|qe) .ret) <| rt 61 (qb 3 2<|qc 509<|qb 5 2<|qd 399<|ya<|qb 7 29<|qc 515<|qb 9 29<|qd 332<|za 4<|ya<|q0 510<|za 10<|qv 2<|qe) .ret
def F519 : F := mF 1 [.t 2] none c519
attribute [go_sem] c519 F519
def l509_0 : C := .loop [] [] [5] [] (rs 13 (q3 (.bin .lss (.g 12) (.g 11))<|qe) <| sq (cd 13 .skip <| .exit 0) <| sq (bk 1 (rs 14 (q1 (.iad 9 (.g 10) (.g 12))<|qJ 9<|qG 5 z_16<|qs 5 9 2 1<|qe) <| r1 16 (qr 3 1<|qr 5 0<|qR 5 1 7<|qr 5 8<|q1 (.build z_16 [(0,1,.l 3),(1,7,.l 5),(8,1,.l 7)])<|q1 (.mks 9 1 z_16 [(0,.l 8)])<|q1 (.app 26 9 (.l 1) (.l 9))<|qf 3 1<|qs 3 1 11 10<|qe))) <| r1 28 (q1 (.bin .add (.g 12) (ci 1))<|qv 12<|qe))
def c509 : C := rs 0 (qB 1 0<|qG 2 z_17<|qe) <| rs 6 (qr 1 0<|q1 (.build [.int .i64 0,.nslice 9] [(0,1,.l 1)])<|qG 3 z_18<|qs 3 2 3 2<|qe) <| sq (rs 9 (qf 1 1<|q3 (.load (.v 1) none (.l 0))<|qH false<|q3 (.mov (ci 0))<|qe) <| bk 0 l509_0) <| rs 29 (qb 3 2<|qt 2 2 0<|qe) .ret
def F509 : F := mF 1 [.cell 2 (some 2)] none c509
attribute [go_sem] c509 F509
def c510 : C := rs 0 (qF 0<|qe) <| rs 9 (qC 522 [ci 1]<|q2 8 (.mov (.l 0))<|qx 0<|qy 1<|qG 1 z_26<|qs 1 38 4 2<|qV 2 3<|qe) <| rs 13 (qb 1 38<|qC 523 [.l 0,ci 1]<|q1 (.build z_25 [(0,1,.c (.int .i64 1)),(1,1,.c (.int .i64 1)),(2,1,.c (.int .i64 1)),(3,1,.c (.str [97]))])<|q1 (.build z_22 [(0,1,.c (.int .i64 1)),(1,1,.c (.int .i64 11)),(2,1,.c (.int .i64 1)),(7,1,.c (.int .i64 1)),(3,1,.c (.int .i64 1)),(4,1,.c (.int .i64 1)),(13,12,.l 2)])<|qC 524 [.l 1,ci 5,.l 3]<|q2 12 (.mov (.l 4))<|qx 0<|qy 1<|qY 5 2<|qG 3 z_26<|qs 3 38 9 6<|qD 4<|q1 (.mov (.l 7))<|q3 (.mov (.l 8))<|qe) <| rs 22 (qb 3 38<|qC 525 [.l 0,ci 0]<|q2 21 (.mov (.l 1))<|qx 0<|qy 1<|qG 6 z_26<|qs 6 38 5 3<|qV 7 4<|qe) <| rs 26 (qm 2<|qk .eql 0<|ya<|qm 5<|qk .eql 16<|za 2<|ya<|qr 3 37<|qn<|za 6<|ya<|qm 7<|qk .eql 0<|za 11<|ya<|qr 6 37<|za 15<|ya<|qf 1 1<|qg 0<|ql 1<|qh true<|qk .gtr 0<|za 19<|ya<|qf 6 1<|qg 0<|ql 6<|qf 1 1<|qg 0<|ql 1<|qq .eql 29<|za 26<|qv 0<|qe) .ret
def F510 : F := mF 0 [.t 0] none c510
attribute [go_sem] c510 F510
def l511_1 : C := .loop [] [4,0,10400] [8] [20700] (rs 65 (q3 (.bin .lss (.g 64) (.g 63))<|qe) <| sq (cd 65 .skip <| .exit 2) <| sq (bk 3 (rs 66 (q1 (.iad 36 (.g 62) (.g 64))<|qJ 36<|qG 8 z_22<|qs 8 36 2 1<|qe) <| rs 69 (qb 8 36<|qc 529<|q2 68 (.mov (.l 1))<|qx 0<|qy 1<|qw 9<|qD 10<|q1 (.mov (.l 4))<|qe) <| r1 73 (qm 9<|q1 (.mks 1 1 [.str []] [(0,.l 0)])<|q1 (.rcall 528 [.g 4,.l 1] 0 4 20700)<|qe))) <| r1 76 (q1 (.bin .add (.g 64) (ci 1))<|qv 64<|qe))
def l511_0 : C := .loop [] [4,0,10400] [6,8] [20100,20200,20300,20400,20500,20600,20700] (rs 25 (q3 (.bin .lss (.g 24) (.g 23))<|qe) <| sq (cd 25 .skip <| .exit 0) <| sq (bk 1 (rs 26 (q1 (.iad 9 (.g 22) (.g 24))<|qJ 9<|qG 6 z_16<|qs 6 9 2 1<|qe) <| rs 28 (qr 6 0<|qf 6 1<|qg 1<|ql 6<|q1 (.mks 1 2 [.int .i64 0] [(0,.l 1),(1,.l 4)])<|q1 (.rcall 526 [.g 4,.l 5] 0 4 20100)<|qe) <| rs 35 (qf 6 1<|qg 2<|ql 6<|q1 (.rcall 527 [.g 4,.l 2] 0 4 20200)<|qe) <| rs 39 (qf 6 1<|qg 3<|ql 6<|q1 (.mks 1 1 [.int .i64 0] [(0,.l 2)])<|q1 (.rcall 526 [.g 4,.l 3] 0 4 20300)<|qe) <| rs 44 (qf 6 1<|qg 4<|ql 6<|qf 6 1<|qg 5<|ql 6<|q1 (.mks 1 2 [.str []] [(0,.l 2),(1,.l 5)])<|q1 (.rcall 528 [.g 4,.l 6] 0 4 20400)<|qe) <| rs 52 (qf 6 1<|qg 6<|ql 6<|q1 (.rcall 527 [.g 4,.l 2] 0 4 20500)<|qe) <| rs 56 (qr 6 8<|qh false<|q1 (.mks 1 1 [.int .i64 0] [(0,.l 2)])<|q1 (.rcall 526 [.g 4,.l 3] 0 4 20600)<|qe) <| rs 61 (qf 6 8<|q3 (.load (.v 6) none (.l 0))<|qH false<|q3 (.mov (ci 0))<|qe) <| bk 2 l511_1)) <| r1 77 (q1 (.bin .add (.g 24) (ci 1))<|qv 24<|qe))
def c511 : C := rs 0 (qB 1 0<|qE 2<|qz 3 0<|qe) <| i1 11 (qb 1 2<|qc 408<|qN<|qe) 13 (rs 0 (qE 2<|qz 3 1<|qe) .ret) <| rs 4 (q3 (.allo [.nslice 1] 10400)<|qe) <| rs 14 (qr 1 0<|qr 1 1<|qh false<|q1 (.mks 1 2 [.int .i64 0] [(0,.l 1),(1,.l 4)])<|q1 (.rcall 526 [.g 4,.l 5] 0 4 20000)<|qe) <| sq (rs 21 (qf 1 1<|q3 (.load (.v 1) none (.l 0))<|qH false<|q3 (.mov (ci 0))<|qe) <| bk 0 l511_0) <| rs 78 (qr 4 0<|q1 (.b2s (.l 1))<|qv 2<|qz 3 0<|qe) .ret
def F511 : F := mF 1 [.t 2,.t 3] none c511
attribute [go_sem] c511 F511
def l512_0 : C := .loop [] [] [] [] (rs 15 (q3 (.bin .lss (.g 14) (.g 13))<|qe) <| sq (cd 15 .skip <| .exit 0) <| sq (bk 1 (r2 16 (qr 5 1<|qm 4<|qr 5 0<|q1 (.rcall 532 [.l 2,.l 4] 0 8 20200)<|q1 (.mks 9 1 z_16 [(0,.l 5)])<|q1 (.app 23 9 (.l 1) (.l 6))<|qf 5 1<|qs 5 1 8 7<|qe))) <| r1 25 (q1 (.bin .add (.g 14) (ci 1))<|qv 14<|qe))
def c512 : C := rs 0 (qG 2 z_17<|qz 3 0<|qe) <| rs 6 (qm 0<|q1 (.build z_20 [(0,1,.l 0)])<|q1 (.box (.l 1))<|qv 4<|qe) <| rs 9 (qm 4<|q1 (.rcall 530 [.l 0] 0 8 20000)<|q1 (.build [.int .i64 0,.nslice 9] [(0,1,.l 1)])<|qG 5 z_18<|qs 5 2 3 2<|qe) <| sq (rs 12 (qm 4<|q3 (.rcall 531 [.l 0] 0 8 20100)<|q3 (.mov (ci 0))<|qe) <| bk 0 l512_0) <| i1 26 (qm 4<|q1 (.nilc (.l 0))<|qg 1<|ql 8<|yo<|qm 4<|q1 (.nilc (.l 5))<|qg 0<|ql 8<|q1 (.bin .neq (.l 8) (.c (.str [])))<|zo 4<|yo<|qb 5 2<|q1 (.call (.k 408) .borrow none [.l 12])<|qn<|zO 11<|qe) 41 (rs 42 (q1 (.build z_17 [])<|qt 2 2 0<|qz 3 3<|qe) .ret) <| rs 43 (qb 5 2<|qt 2 2 0<|qz 3 0<|qe) .ret
def F512 : F := mF 1 [.cell 2 (some 2),.t 3] none c512
attribute [go_sem] c512 F512
def l513_1 : C := .loop [] [] [] [] (lq 67 (qm 6<|qr 5 8<|qh false<|qQ .lss 0<|qe) 71 2 <| sq (bk 3 (r1 74 (qm 3<|qr 5 8<|qm 6<|qi 36<|qJ 36<|qc 536<|qc 535<|qq .add 0<|qv 3<|qe))) <| r1 72 (qm 6<|qk .add 1<|qv 6<|qe))
def l513_0 : C := .loop [] [] [5] [] (lq 15 (qm 4<|qr 1 1<|qh false<|qQ .lss 0<|qe) 19 0 <| sq (bk 1 (rs 22 (qr 1 1<|qm 4<|qi 9<|qJ 9<|qG 5 z_16<|qs 5 9 5 4<|qe) <| rt 27 (qm 3<|qr 5 0<|qc 533<|qq .add 0<|qf 5 1<|qg 1<|ql 5<|qc 533<|qq .add 4<|qf 5 1<|qg 2<|ql 5<|qc 534<|qq .add 9<|qf 5 1<|qg 3<|ql 5<|qc 533<|qq .add 14<|qf 5 1<|qg 4<|ql 5<|qc 535<|qq .add 19<|qf 5 1<|qg 5<|ql 5<|qc 535<|qq .add 24<|qf 5 1<|qg 6<|ql 5<|qc 534<|qq .add 29<|qr 5 8<|qh false<|qc 533<|qq .add 34<|qv 3<|qe) <| rs 0 (qz 6 0<|qe) <| bk 2 l513_1)) <| r1 20 (qm 4<|qk .add 1<|qv 4<|qe))
def c513 : C := rs 0 (qB 1 0<|qE 2<|qe) <| rt 7 (qr 1 0<|qc 533<|qr 1 1<|qh false<|qc 533<|qq .add 2<|qv 3<|qe) <| sq (rs 0 (qz 4 0<|qe) <| bk 0 l513_0) <| rs 83 (qm 3<|qv 2<|qe) .ret
def F513 : F := mF 1 [.t 2] none c513
attribute [go_sem] c513 F513
def l515_0 : C := .loop [] [] [5] [] (rs 25 (q3 (.bin .lss (.g 24) (.g 23))<|qe) <| sq (cd 25 .skip <| .exit 0) <| sq (bk 1 (rs 26 (q1 (.iad 3 (.g 22) (.g 24))<|qJ 3<|qG 5 z_11<|qs 5 3 2 1<|qe) <| r1 28 (qr 3 1<|qb 5 3<|q1 (.mks 3 1 z_11 [(0,.l 2)])<|q1 (.app 32 3 (.l 1) (.l 3))<|qf 3 1<|qs 3 1 5 4<|qe))) <| r1 34 (q1 (.bin .add (.g 24) (ci 1))<|qv 24<|qe))
def l515_1 : C := .loop [] [] [7] [] (rs 39 (q3 (.bin .lss (.g 38) (.g 37))<|qe) <| sq (cd 39 .skip <| .exit 2) <| sq (bk 3 (rs 40 (q1 (.iad 7 (.g 36) (.g 38))<|qJ 7<|qG 7 z_12<|qs 7 7 2 1<|qe) <| r1 42 (qr 3 28<|qb 7 7<|q1 (.mks 7 1 z_12 [(0,.l 2)])<|q1 (.app 46 7 (.l 1) (.l 3))<|qf 3 28<|qs 3 1 5 4<|qe))) <| r1 48 (q1 (.bin .add (.g 38) (ci 1))<|qv 38<|qe))
def c515 : C := rs 0 (qB 1 0<|qG 2 z_13<|qe) <| rs 8 (qr 1 0<|qr 1 2<|qr 1 3<|qr 1 4<|qR 1 5 3<|qR 1 8 20<|q1 (.build [.slice 5 [],.nslice 3,.int .i64 0,.slice 5 [],.slice 3 [],.int .i64 0,.int .i64 0,.int .i64 0,.int .i64 0,.int .i64 0,.int .i64 0,.int .i64 0,.int .i64 0,.int .i64 0,.int .i64 0,.int .i64 0,.str [],.slice 1 [],.int .i64 0,.int .i64 0,.int .i64 0,.str [],.str [],.slice 1 [],.int .i64 0,.int .i64 0,.int .i64 0,.slice 1 [],.nslice 7] [(0,1,.l 1),(2,1,.l 3),(3,1,.l 5),(4,1,.l 7),(5,3,.l 9),(8,20,.l 11)])<|qG 3 z_14<|qs 3 29 13 12<|qe) <| sq (rs 21 (qf 1 1<|q3 (.load (.v 1) none (.l 0))<|qH false<|q3 (.mov (ci 0))<|qe) <| bk 0 l515_0) <| sq (rs 35 (qf 1 28<|q3 (.load (.v 1) none (.l 0))<|qH false<|q3 (.mov (ci 0))<|qe) <| bk 2 l515_1) <| rs 49 (qb 3 29<|qt 2 29 0<|qe) .ret
def F515 : F := mF 1 [.cell 2 (some 29)] none c515
attribute [go_sem] c515 F515
def l517_0 : C := .loop [] [] [6] [] (rs 13 (q3 (.bin .lss (.g 12) (.g 11))<|qe) <| sq (cd 13 .skip <| .exit 0) <| sq (bk 1 (rs 14 (qm 4<|q1 (.rcall 539 [.l 0] 0 9 20100)<|qm 4<|q1 (.rcall 539 [.l 2] 0 9 20200)<|q1 (.build z_1 [(0,1,.l 1),(1,1,.l 3)])<|q1 (.build z_0 [(0,2,.l 4)])<|qG 6 z_0<|qs 6 5 6 5<|qe) <| rs 20 (qm 4<|q1 (.rcall 530 [.l 0] 0 9 20300)<|qm 4<|q1 (.rcall 530 [.l 2] 0 9 20400)<|qm 4<|q1 (.rcall 530 [.l 4] 0 9 20500)<|qf 6 2<|qs 6 1 6 1<|qf 6 3<|qs 6 1 8 3<|qf 6 4<|qs 6 1 10 5<|qe) <| r1 29 (qr 5 0<|qb 6 5<|q1 (.mks 5 1 z_0 [(0,.l 2)])<|q1 (.app 33 5 (.l 1) (.l 3))<|qf 5 0<|qs 5 1 5 4<|qe))) <| r1 35 (q1 (.bin .add (.g 12) (ci 1))<|qv 12<|qe))
def l517_1 : C := .loop [] [] [] [] (rs 39 (q3 (.bin .lss (.g 38) (.g 37))<|qe) <| sq (cd 39 .skip <| .exit 2) <| sq (bk 3 (r2 40 (qr 5 1<|qm 4<|q1 (.rcall 530 [.l 2] 0 9 20700)<|qm 4<|q1 (.rcall 540 [.l 4] 0 9 20800)<|qm 4<|q1 (.rcall 541 [.l 6] 0 9 20900)<|q1 (.build z_11 [(0,1,.l 3),(1,1,.l 5),(2,1,.l 7)])<|q1 (.mks 3 1 z_11 [(0,.l 8)])<|q1 (.app 50 3 (.l 1) (.l 9))<|qf 5 1<|qs 5 1 11 10<|qe))) <| r1 52 (q1 (.bin .add (.g 38) (ci 1))<|qv 38<|qe))
def l517_2 : C := .loop [] [] [] [] (rs 59 (q3 (.bin .lss (.g 58) (.g 57))<|qe) <| sq (cd 59 .skip <| .exit 4) <| sq (bk 5 (r2 60 (qr 5 3<|qm 4<|q1 (.rcall 530 [.l 2] 0 9 21200)<|qm 4<|q1 (.rcall 530 [.l 4] 0 9 21300)<|qm 4<|q1 (.rcall 542 [.l 6] 0 9 21400)<|q1 (.build z_10 [(0,1,.l 3),(1,1,.l 5),(2,3,.l 7)])<|q1 (.mks 5 1 z_10 [(0,.l 8)])<|q1 (.app 70 5 (.l 1) (.l 9))<|qf 5 3<|qs 5 1 11 10<|qe))) <| r1 72 (q1 (.bin .add (.g 58) (ci 1))<|qv 58<|qe))
def l517_3 : C := .loop [] [] [] [] (rs 76 (q3 (.bin .lss (.g 75) (.g 74))<|qe) <| sq (cd 76 .skip <| .exit 6) <| sq (bk 7 (r2 77 (qr 5 4<|qm 4<|q1 (.rcall 542 [.l 2] 0 9 21600)<|q1 (.mks 3 1 z_19 [(0,.l 3)])<|q1 (.app 82 3 (.l 1) (.l 4))<|qf 5 4<|qs 5 1 6 5<|qe))) <| r1 84 (q1 (.bin .add (.g 75) (ci 1))<|qv 75<|qe))
def l517_4 : C := .loop [] [] [] [] (rs 94 (q3 (.bin .lss (.g 93) (.g 92))<|qe) <| sq (cd 94 .skip <| .exit 8) <| sq (bk 9 (r2 95 (qr 5 28<|qm 4<|q1 (.rcall 530 [.l 2] 0 9 22000)<|qm 4<|q1 (.rcall 530 [.l 4] 0 9 22100)<|qm 4<|q1 (.rcall 530 [.l 6] 0 9 22200)<|qm 4<|q1 (.rcall 542 [.l 8] 0 9 22300)<|qm 4<|q1 (.rcall 530 [.l 10] 0 9 22400)<|q1 (.build z_12 [(0,1,.l 3),(1,1,.l 5),(2,1,.l 7),(3,3,.l 9),(6,1,.l 11)])<|q1 (.mks 7 1 z_12 [(0,.l 12)])<|q1 (.app 109 7 (.l 1) (.l 13))<|qf 5 28<|qs 5 1 15 14<|qe))) <| r1 111 (q1 (.bin .add (.g 93) (ci 1))<|qv 93<|qe))
def c517 : C := rs 0 (qG 2 z_13<|qz 3 0<|qe) <| rs 7 (qm 0<|q1 (.build z_20 [(0,1,.l 0)])<|q1 (.box (.l 1))<|qv 4<|qe) <| rs 0 (qG 5 z_27<|qe) <| sq (rs 10 (qm 4<|q3 (.rcall 531 [.l 0] 0 9 20000)<|q3 (.mov (ci 0))<|qe) <| bk 0 l517_0) <| sq (rs 36 (qm 4<|q3 (.rcall 531 [.l 0] 0 9 20600)<|q3 (.mov (ci 0))<|qe) <| bk 2 l517_1) <| rs 53 (qm 4<|q1 (.rcall 530 [.l 0] 0 9 21000)<|qf 5 2<|qs 5 1 2 1<|qe) <| sq (rs 56 (qm 4<|q3 (.rcall 531 [.l 0] 0 9 21100)<|q3 (.mov (ci 0))<|qe) <| bk 4 l517_2) <| sq (rs 73 (qm 4<|q3 (.rcall 531 [.l 0] 0 9 21500)<|q3 (.mov (ci 0))<|qe) <| bk 6 l517_3) <| rs 85 (qm 4<|q1 (.rcall 542 [.l 0] 0 9 21700)<|qm 4<|q1 (.rcall 543 [.l 2] 0 9 21800)<|qf 5 5<|qs 5 3 4 1<|qf 5 8<|qs 5 20 6 3<|qe) <| sq (rs 91 (qm 4<|q3 (.rcall 531 [.l 0] 0 9 21900)<|q3 (.mov (ci 0))<|qe) <| bk 8 l517_4) <| i1 112 (qm 4<|q1 (.nilc (.l 0))<|qg 1<|ql 9<|yo<|qm 4<|q1 (.nilc (.l 5))<|qg 0<|ql 9<|q1 (.bin .neq (.l 8) (.c (.str [])))<|zo 4<|yo<|qb 5 29<|q1 (.call (.k 328) .borrow none [.l 12])<|qn<|zO 11<|qe) 127 (rs 128 (q1 (.build z_13 [])<|qt 2 29 0<|qz 3 3<|qe) .ret) <| rs 129 (qb 5 29<|qt 2 29 0<|qz 3 0<|qe) .ret
def F517 : F := mF 1 [.cell 2 (some 29),.t 3] none c517
attribute [go_sem] c517 F517
def l518_0 : C := .loop [] [] [5] [] (lq 17 (qm 4<|qr 1 0<|qh false<|qQ .lss 0<|qe) 21 0 <| sq (bk 1 (rs 24 (qr 1 0<|qm 4<|qi 5<|qJ 5<|qG 5 z_0<|qs 5 5 5 4<|qe) <| r2 29 (qm 3<|qf 5 0<|qg 0<|ql 5<|qc 535<|qq .add 0<|qf 5 0<|qg 1<|ql 5<|qc 535<|qq .add 5<|qr 5 2<|qc 533<|qq .add 10<|qr 5 3<|qc 533<|qq .add 14<|qr 5 4<|qc 533<|qq .add 18<|qv 3<|qe))) <| r1 22 (qm 4<|qk .add 1<|qv 4<|qe))
def l518_1 : C := .loop [] [] [] [] (lq 58 (qm 6<|qr 1 1<|qh false<|qQ .lss 0<|qe) 62 2 <| sq (bk 3 (r2 65 (qm 3<|qr 1 1<|qm 6<|qi 3<|qg 0<|qj<|qc 533<|qq .add 0<|qr 1 1<|qm 6<|qi 3<|qg 1<|qj<|qc 534<|qq .add 8<|qr 1 1<|qm 6<|qi 3<|qg 2<|qj<|qc 504<|qq .add 16<|qv 3<|qe))) <| r1 63 (qm 6<|qk .add 1<|qv 6<|qe))
def l518_2 : C := .loop [] [] [] [] (lq 100 (qm 7<|qr 1 3<|qh false<|qQ .lss 0<|qe) 104 4 <| sq (bk 5 (r2 107 (qm 3<|qr 1 3<|qm 7<|qi 5<|qg 0<|qj<|qc 533<|qq .add 0<|qr 1 3<|qm 7<|qi 5<|qg 1<|qj<|qc 533<|qq .add 8<|qr 1 3<|qm 7<|qi 5<|qg 2<|qJ 3<|qc 544<|qq .add 16<|qv 3<|qe))) <| r1 105 (qm 7<|qk .add 1<|qv 7<|qe))
def l518_3 : C := .loop [] [] [] [] (lq 138 (qm 8<|qr 1 4<|qh false<|qQ .lss 0<|qe) 142 6 <| sq (bk 7 (r1 145 (qm 3<|qr 1 4<|qm 8<|qi 3<|qJ 3<|qc 544<|qq .add 0<|qv 3<|qe))) <| r1 143 (qm 8<|qk .add 1<|qv 8<|qe))
def l518_4 : C := .loop [] [] [] [] (lq 201 (qm 10<|qr 9 9<|qh false<|qQ .lss 0<|qe) 205 8 <| sq (bk 9 (r1 208 (qm 3<|qr 9 9<|qm 10<|qi 1<|qj<|qc 535<|qq .add 0<|qv 3<|qe))) <| r1 206 (qm 10<|qk .add 1<|qv 10<|qe))
def l518_5 : C := .loop [] [] [12] [] (lq 256 (qm 11<|qr 1 28<|qh false<|qQ .lss 0<|qe) 260 10 <| sq (bk 11 (rs 263 (qr 1 28<|qm 11<|qi 7<|qJ 7<|qG 12 z_12<|qs 12 7 5 4<|qe) <| r2 268 (qm 3<|qr 12 0<|qc 533<|qq .add 0<|qr 12 1<|qc 533<|qq .add 4<|qr 12 2<|qc 533<|qq .add 8<|qR 12 3 3<|qc 544<|qq .add 12<|qr 12 6<|qc 533<|qq .add 16<|qv 3<|qe))) <| r1 261 (qm 11<|qk .add 1<|qv 11<|qe))
def c518 : C := rs 0 (qB 1 0<|qE 2<|qe) <| rs 13 (qr 1 0<|qh false<|qc 533<|qv 3<|qe) <| sq (rs 0 (qz 4 0<|qe) <| bk 0 l518_0) <| rs 52 (qm 3<|qr 1 1<|qh false<|qc 533<|qq .add 0<|qv 3<|qe) <| sq (rs 0 (qz 6 0<|qe) <| bk 2 l518_1) <| rt 90 (qm 3<|qr 1 2<|qc 533<|qq .add 0<|qr 1 3<|qh false<|qc 533<|qq .add 4<|qv 3<|qe) <| sq (rs 0 (qz 7 0<|qe) <| bk 4 l518_2) <| rs 132 (qm 3<|qr 1 4<|qh false<|qc 533<|qq .add 0<|qv 3<|qe) <| sq (rs 0 (qz 8 0<|qe) <| bk 6 l518_3) <| rs 153 (qR 1 8 20<|qG 9 z_28<|qs 9 20 2 1<|qe) <| rt 155 (qm 3<|qR 1 5 3<|qc 544<|qq .add 0<|qr 9 0<|qc 533<|qq .add 4<|qr 9 1<|qc 533<|qq .add 8<|qr 9 2<|qc 533<|qq .add 12<|qr 9 3<|qc 533<|qq .add 16<|qr 9 4<|qc 533<|qq .add 20<|qr 9 5<|qc 533<|qq .add 24<|qr 9 6<|qc 533<|qq .add 28<|qr 9 7<|qc 533<|qq .add 32<|qr 9 8<|qc 535<|qq .add 36<|qr 9 9<|qh false<|qc 533<|qq .add 40<|qv 3<|qe) <| sq (rs 0 (qz 10 0<|qe) <| bk 8 l518_4) <| rt 216 (qm 3<|qr 9 10<|qc 533<|qq .add 0<|qr 9 11<|qc 533<|qq .add 4<|qr 9 12<|qc 533<|qq .add 8<|qf 9 13<|qg 0<|ql 9<|qc 535<|qq .add 12<|qf 9 13<|qg 1<|ql 9<|qc 535<|qq .add 17<|qr 9 15<|qc 534<|qq .add 22<|qR 9 16 3<|qc 544<|qq .add 26<|qr 9 19<|qc 534<|qq .add 30<|qr 1 28<|qh false<|qc 533<|qq .add 34<|qv 3<|qe) <| sq (rs 0 (qz 11 0<|qe) <| bk 10 l518_5) <| rs 289 (qm 3<|qv 2<|qe) .ret
def F518 : F := mF 1 [.t 2] none c518
attribute [go_sem] c518 F518
def l520_1 : C := .loop [] [] [12] [] (lq 62 (qm 11<|qm 10<|qq .lss 0<|ya<|qm 4<|q1 (.nilc (.l 4))<|qg 1<|ql 16<|qn<|zA 3<|qe) 71 2 <| sq (bk 3 (rs 75 (qm 4<|q1 (.rcall 547 [.l 0] 0 16 21000)<|q1 (.call (.k 548) .freeze none [.l 1])<|q2 74 (.mov (.l 2))<|qx 0<|qy 1<|qG 12 z_22<|qs 12 36 6 4<|qV 13 5<|qe) <| rs 80 (qm 4<|qm 4<|q1 (.nilc (.l 1))<|qg 1<|ql 16<|yo<|qm 13<|qn<|zo 5<|q1 (.nilc (.l 0))<|qg 1<|qs 16 1 10 8<|qe) <| r1 91 (qr 8 8<|qb 12 36<|q1 (.mks 36 1 z_22 [(0,.l 2)])<|q1 (.app 95 36 (.l 1) (.l 3))<|qf 8 8<|qs 8 1 5 4<|qe))) <| r1 72 (qm 11<|qk .add 1<|qv 11<|qe))
def l520_0 : C := .loop [] [] [8,9,12] [95] (lq 22 (qm 7<|qm 6<|qq .lss 0<|ya<|qm 4<|q1 (.nilc (.l 4))<|qg 1<|ql 16<|qn<|zA 3<|qe) 31 0 <| sq (bk 1 (rs 34 (qm 4<|q1 (.rcall 545 [.l 0] 0 16 20200)<|q1 (.build [.int .i64 0,.int .i64 0,.int .i64 0,.slice 1 [],.int .i64 0,.str [],.str [],.slice 1 [],.nslice 36] [(0,1,.l 1)])<|qG 8 z_29<|qs 8 9 3 2<|qe) <| rs 37 (qr 5 0<|q1 (.build z_4 [(0,1,.l 1)])<|qG 9 z_4<|qs 9 7 3 2<|qe) <| rs 40 (qm 4<|q1 (.rcall 545 [.l 0] 0 16 20300)<|qf 9 1<|qs 9 1 2 1<|qe) <| rs 43 (qm 4<|q1 (.rcall 546 [.l 0] 0 16 20400)<|qf 9 2<|qs 9 1 2 1<|qe) <| rs 46 (qm 4<|q1 (.rcall 545 [.l 0] 0 16 20500)<|qf 9 3<|qs 9 1 2 1<|qe) <| rs 49 (qm 4<|q1 (.rcall 547 [.l 0] 0 16 20600)<|qf 9 4<|qs 9 1 2 1<|qe) <| rs 52 (qm 4<|q1 (.rcall 547 [.l 0] 0 16 20700)<|qf 9 5<|qs 9 1 2 1<|qe) <| rs 55 (qm 4<|q1 (.rcall 546 [.l 0] 0 16 20800)<|qf 9 6<|qs 9 1 2 1<|qe) <| rs 58 (qb 9 7<|qf 8 1<|qs 8 7 1 0<|qe) <| rs 60 (qm 4<|q1 (.rcall 545 [.l 0] 0 16 20900)<|qv 10<|qe) <| sq (rs 0 (qz 11 0<|qe) <| bk 2 l520_1) <| r1 97 (qr 5 1<|q1 (.ldf 95 8 9 (.g 8))<|q1 (.mks 9 1 z_16 [(0,.l 2)])<|q1 (.app 101 9 (.l 1) (.l 3))<|qf 5 1<|qs 5 1 5 4<|qe))) <| r1 32 (qm 7<|qk .add 1<|qv 7<|qe))
def c520 : C := rs 0 (qG 2 z_17<|qF 3<|qe) <| rs 14 (qm 0<|q1 (.build z_20 [(0,1,.l 0)])<|q1 (.box (.l 1))<|qv 4<|qe) <| rs 17 (qm 4<|q1 (.rcall 545 [.l 0] 0 16 20000)<|q1 (.build [.int .i64 0,.nslice 9] [(0,1,.l 1)])<|qG 5 z_18<|qs 5 2 3 2<|qe) <| rs 20 (qm 4<|q1 (.rcall 545 [.l 0] 0 16 20100)<|qv 6<|qe) <| sq (rs 0 (qz 7 0<|qe) <| bk 0 l520_0) <| i1 103 (qm 4<|q1 (.nilc (.l 0))<|qg 1<|ql 16<|yo<|qb 5 2<|q1 (.call (.k 405) .borrow none [.l 5])<|qn<|zo 4<|yo<|qb 5 2<|q1 (.call (.k 513) .borrow none [.l 10])<|qm 0<|qq .neq 11<|zO 9<|qe) 117 (rs 118 (q1 (.build z_17 [])<|qt 2 2 0<|qF 3<|qe) .ret) <| rs 119 (qb 5 2<|qt 2 2 0<|qT 3<|qe) .ret
def F520 : F := mF 1 [.cell 2 (some 2),.t 3] none c520
attribute [go_sem] c520 F520
def l521_0 : C := .loop [] [] [8] [] (lq 21 (qm 7<|qm 6<|qq .lss 0<|ya<|qm 4<|q1 (.nilc (.l 4))<|qg 1<|ql 18<|qn<|zA 3<|qe) 30 0 <| sq (bk 1 (rs 33 (qm 4<|q1 (.rcall 547 [.l 0] 0 18 20100)<|q1 (.build z_1 [(0,1,.l 1)])<|q1 (.build z_0 [(0,2,.l 2)])<|qG 8 z_0<|qs 8 5 4 3<|qe) <| rs 37 (qm 4<|q1 (.rcall 547 [.l 0] 0 18 20200)<|qf 8 0<|qg 1<|qs 8 1 3 1<|qe) <| rs 41 (qm 4<|q1 (.rcall 545 [.l 0] 0 18 20300)<|qf 8 2<|qs 8 1 2 1<|qe) <| rs 44 (qm 4<|q1 (.rcall 545 [.l 0] 0 18 20400)<|qf 8 3<|qs 8 1 2 1<|qe) <| rs 47 (qm 4<|q1 (.rcall 545 [.l 0] 0 18 20500)<|qf 8 4<|qs 8 1 2 1<|qe) <| r1 50 (qr 5 0<|qb 8 5<|q1 (.mks 5 1 z_0 [(0,.l 2)])<|q1 (.app 54 5 (.l 1) (.l 3))<|qf 5 0<|qs 5 1 5 4<|qe))) <| r1 31 (qm 7<|qk .add 1<|qv 7<|qe))
def l521_1 : C := .loop [] [] [10] [] (lq 58 (qm 9<|qm 6<|qq .lss 0<|ya<|qm 4<|q1 (.nilc (.l 4))<|qg 1<|ql 18<|qn<|zA 3<|qe) 67 2 <| sq (bk 3 (rs 70 (qm 4<|q1 (.rcall 545 [.l 0] 0 18 20700)<|q1 (.build z_11 [(0,1,.l 1)])<|qG 10 z_11<|qs 10 3 3 2<|qe) <| rs 73 (qm 4<|q1 (.rcall 546 [.l 0] 0 18 20800)<|qf 10 1<|qs 10 1 2 1<|qe) <| rs 76 (qm 4<|q1 (.rcall 549 [.l 0] 0 18 20900)<|qf 10 2<|qs 10 1 2 1<|qe) <| r1 79 (qr 5 1<|qb 10 3<|q1 (.mks 3 1 z_11 [(0,.l 2)])<|q1 (.app 83 3 (.l 1) (.l 3))<|qf 5 1<|qs 5 1 5 4<|qe))) <| r1 68 (qm 9<|qk .add 1<|qv 9<|qe))
def l521_2 : C := .loop [] [] [12] [] (lq 90 (qm 11<|qm 6<|qq .lss 0<|ya<|qm 4<|q1 (.nilc (.l 4))<|qg 1<|ql 18<|qn<|zA 3<|qe) 99 4 <| sq (bk 5 (rs 102 (qm 4<|q1 (.rcall 545 [.l 0] 0 18 21200)<|q1 (.build z_10 [(0,1,.l 1)])<|qG 12 z_10<|qs 12 5 3 2<|qe) <| rs 105 (qm 4<|q1 (.rcall 545 [.l 0] 0 18 21300)<|qf 12 1<|qs 12 1 2 1<|qe) <| rs 108 (qm 4<|q1 (.rcall 550 [.l 0] 0 18 21400)<|qf 12 2<|qs 12 3 2 1<|qe) <| r1 111 (qr 5 3<|qb 12 5<|q1 (.mks 5 1 z_10 [(0,.l 2)])<|q1 (.app 115 5 (.l 1) (.l 3))<|qf 5 3<|qs 5 1 5 4<|qe))) <| r1 100 (qm 11<|qk .add 1<|qv 11<|qe))
def l521_3 : C := .loop [] [] [] [] (lq 119 (qm 13<|qm 6<|qq .lss 0<|ya<|qm 4<|q1 (.nilc (.l 4))<|qg 1<|ql 18<|qn<|zA 3<|qe) 128 6 <| sq (bk 7 (r2 131 (qr 5 4<|qm 4<|q1 (.rcall 550 [.l 2] 0 18 21600)<|q1 (.mks 3 1 z_19 [(0,.l 3)])<|q1 (.app 136 3 (.l 1) (.l 4))<|qf 5 4<|qs 5 1 6 5<|qe))) <| r1 129 (qm 13<|qk .add 1<|qv 13<|qe))
def l521_4 : C := .loop [] [] [15] [] (lq 146 (qm 14<|qm 6<|qq .lss 0<|ya<|qm 4<|q1 (.nilc (.l 4))<|qg 1<|ql 18<|qn<|zA 3<|qe) 155 8 <| sq (bk 9 (rs 158 (qm 4<|q1 (.rcall 545 [.l 0] 0 18 22000)<|q1 (.build z_12 [(0,1,.l 1)])<|qG 15 z_12<|qs 15 7 3 2<|qe) <| rs 161 (qm 4<|q1 (.rcall 545 [.l 0] 0 18 22100)<|qf 15 1<|qs 15 1 2 1<|qe) <| rs 164 (qm 4<|q1 (.rcall 545 [.l 0] 0 18 22200)<|qf 15 2<|qs 15 1 2 1<|qe) <| rs 167 (qm 4<|q1 (.rcall 550 [.l 0] 0 18 22300)<|qf 15 3<|qs 15 3 2 1<|qe) <| rs 170 (qm 4<|q1 (.rcall 545 [.l 0] 0 18 22400)<|qf 15 6<|qs 15 1 2 1<|qe) <| r1 173 (qr 5 28<|qb 15 7<|q1 (.mks 7 1 z_12 [(0,.l 2)])<|q1 (.app 177 7 (.l 1) (.l 3))<|qf 5 28<|qs 5 1 5 4<|qe))) <| r1 156 (qm 14<|qk .add 1<|qv 14<|qe))
def c521 : C := rs 0 (qG 2 z_13<|qF 3<|qe) <| rs 16 (qm 0<|q1 (.build z_20 [(0,1,.l 0)])<|q1 (.box (.l 1))<|qv 4<|qe) <| rs 0 (qG 5 z_27<|qe) <| rs 19 (qm 4<|q1 (.rcall 545 [.l 0] 0 18 20000)<|qv 6<|qe) <| sq (rs 0 (qz 7 0<|qe) <| bk 0 l521_0) <| rs 56 (qm 4<|q1 (.rcall 545 [.l 0] 0 18 20600)<|qv 6<|qe) <| sq (rs 0 (qz 9 0<|qe) <| bk 2 l521_1) <| rs 85 (qm 4<|q1 (.rcall 545 [.l 0] 0 18 21000)<|qf 5 2<|qs 5 1 2 1<|qe) <| rs 88 (qm 4<|q1 (.rcall 545 [.l 0] 0 18 21100)<|qv 6<|qe) <| sq (rs 0 (qz 11 0<|qe) <| bk 4 l521_2) <| rs 117 (qm 4<|q1 (.rcall 545 [.l 0] 0 18 21500)<|qv 6<|qe) <| sq (rs 0 (qz 13 0<|qe) <| bk 6 l521_3) <| rs 138 (qm 4<|q1 (.rcall 550 [.l 0] 0 18 21700)<|qf 5 5<|qs 5 3 2 1<|qe) <| rs 141 (qm 4<|q1 (.rcall 551 [.l 0] 0 18 21800)<|qf 5 8<|qs 5 20 2 1<|qe) <| rs 144 (qm 4<|q1 (.rcall 545 [.l 0] 0 18 21900)<|qv 6<|qe) <| sq (rs 0 (qz 14 0<|qe) <| bk 8 l521_4) <| i1 179 (qm 4<|q1 (.nilc (.l 0))<|qg 1<|ql 18<|yo<|qb 5 29<|q1 (.call (.k 329) .borrow none [.l 5])<|qn<|zo 4<|yo<|qb 5 29<|q1 (.call (.k 518) .borrow none [.l 10])<|qm 0<|qq .neq 11<|zO 9<|qe) 193 (rs 194 (q1 (.build z_13 [])<|qt 2 29 0<|qF 3<|qe) .ret) <| rs 195 (qb 5 29<|qt 2 29 0<|qT 3<|qe) .ret
def F521 : F := mF 1 [.cell 2 (some 29),.t 3] none c521
attribute [go_sem] c521 F521
def c522 : C := rs 0 (qG 2 z_26<|qz 3 0<|qe) <| rs 7 (qm 0<|q1 (.build z_26 [(0,1,.l 0),(37,1,.c (.bool true))])<|qG 4 z_26<|qs 4 38 2 1<|qe) <| sq (rs 9 (qm 0<|qK .eql 0<|qe) <| cd 10 (r1 11 (q0 327<|qf 4 8<|qs 4 29 1 0<|qe)) <| rs 14 (qm 0<|qc 395<|q2 13 (.mov (.l 1))<|qx 0<|qy 1<|qG 5 z_17<|qs 5 2 5 3<|qV 6 4<|qe) <| i1 18 (qm 6<|qK .neq 0<|qe) 19 (rs 20 (q1 (.build z_26 [])<|qm 6<|qt 2 38 0<|qw 3<|qe) .ret) <| r1 22 (qb 5 2<|qf 4 6<|qs 4 2 1 0<|qe)) <| rt 25 (qR 4 1 5<|qb 4 38<|qc 552<|q1 (.inv [(226,553),(228,554)] (.l 3) [])<|qC 555 (ls [1,4])<|q2 24 (.mov (.l 5))<|qx 0<|qy 1<|qf 4 1<|qs 4 5 9 7<|qe) <| rs 34 (qb 4 38<|qt 2 38 0<|qz 3 0<|qe) .ret
def F522 : F := mF 1 [.cell 2 (some 38),.t 3] none c522
attribute [go_sem] c522 F522
def c523 : C := rs 0 (qB 2 0<|qG 4 z_26<|qe) <| i1 5 (qb 2 38<|q3 (.call (.k 556) .no none [.l 0])<|qe) 6 (r1 7 (qR 2 1 5<|qm 1<|qd 557<|qf 2 1<|qs 2 5 4 3<|qe)) <| rs 12 (qb 2 38<|qt 4 38 0<|qe) .ret
def F523 : F := mF 2 [.cell 4 (some 38)] none c523
attribute [go_sem] c523 F523
def c524 : C := rs 0 (qB 3 0<|qB 5 2<|qG 6 z_26<|qS 7 36<|qz 8 0<|qe) <| sq (rs 13 (qb 3 38<|qc 558<|qv 9<|qe) <| rs 15 (qm 9<|qK .neq 0<|qe) <| cd 16 (rs 17 (qb 3 38<|qm 9<|qt 6 38 0<|qS 7 36<|qV 8 1<|qe) .ret) .skip) <| rt 20 (qb 3 38<|qc 552<|qm 1<|qb 5 36<|q1 (.inv [(226,559),(228,560)] (.l 1) [.l 2,.l 3])<|q2 19 (.mov (.l 4))<|qx 0<|qy 1<|qw 10<|qw 11<|qe) <| rs 28 (qb 3 38<|qm 10<|qd 561<|q2 27 (.mov (.l 2))<|qx 0<|qy 1<|qt 3 38 4<|qw 12<|qe) <| rs 33 (qb 3 38<|qm 11<|qm 12<|qC 562 (ls [0,1,2])<|qx 0<|qy 1<|qY 3 2<|qt 6 38 4<|qV 7 5<|qV 8 6<|qe) .ret
def F524 : F := mF 3 [.cell 6 (some 38),.t 7,.t 8] none c524
attribute [go_sem] c524 F524
def c525 : C := rs 0 (qB 2 0<|qG 4 z_26<|qz 5 0<|qe) <| i1 14 (qb 2 38<|qc 556<|qN<|qe) 16 (rs 17 (qb 2 38<|qt 4 38 0<|qz 5 1<|qe) .ret) <| rs 18 (qf 2 37<|q5 (.store (.v 2) 1 (.l 0) (cb false))<|qe) <| rs 20 (qR 2 1 5<|qm 1<|qd 563<|qc 564<|q2 19 (.mov (.l 4))<|qx 0<|qy 1<|qY 5 2<|qG 6 z_30<|qs 6 5 9 6<|qV 7 7<|qV 8 8<|qe) <| rs 28 (qb 6 5<|qf 2 1<|qs 2 5 1 0<|qe) <| sq (bk 0 (rs 31 (qm 8<|qk .neq 0<|qv 30<|qe) <| cd 30 (rs 33 (qb 2 38<|qm 8<|qt 4 38 0<|qw 5<|qe) .ret) <| rs 36 (qm 7<|qh false<|qk .eql 0<|qv 35<|qe) <| cd 35 (rs 39 (qb 2 38<|qt 4 38 0<|qz 5 3<|qe) .ret) .skip)) <| rs 40 (qm 7<|qm 7<|qh false<|qk .sub 1<|q1 (.iad 1 (.l 0) (.l 3))<|qj<|qv 9<|qe) <| sq (rs 46 (qr 2 0<|qK .eql 0<|qe) <| cd 48 (rs 50 (qm 9<|qc 517<|q2 49 (.mov (.l 1))<|qx 0<|qy 1<|qG 10 z_13<|qs 10 29 5 3<|qV 11 4<|qe) <| i1 54 (qm 11<|qK .neq 0<|qe) 55 (rs 56 (qb 2 38<|qm 11<|qt 4 38 0<|qw 5<|qe) .ret) <| r1 58 (qb 10 29<|qf 2 8<|qs 2 29 1 0<|qe)) <| rs 61 (qm 9<|qc 512<|q2 60 (.mov (.l 1))<|qx 0<|qy 1<|qG 12 z_17<|qs 12 2 5 3<|qV 13 4<|qe) <| i1 65 (qm 13<|qk .neq 0<|yo<|qr 12 0<|qr 2 0<|qq .neq 4<|zO 2<|qe) 73 (rs 74 (qb 2 38<|qt 4 38 0<|qz 5 3<|qe) .ret) <| r1 75 (qb 12 2<|qf 2 6<|qs 2 2 1 0<|qe)) <| rs 77 (qf 2 37<|q5 (.store (.v 2) 1 (.l 0) (cb true))<|qe) <| rs 78 (qb 2 38<|qt 4 38 0<|qz 5 0<|qe) .ret
def F525 : F := mF 2 [.cell 4 (some 38),.t 5] none c525
attribute [go_sem] c525 F525
def l526_0 : C := .loop [] [0,0,9000] [] [] (rs 11 (q3 (.bin .lss (.g 10) (.g 9))<|qe) <| sq (cd 11 .skip <| .exit 0) <| sq (bk 1 (rs 12 (q1 (.iad 1 (.g 8) (.g 10))<|qj<|qv 5<|qe) <| rs 15 (qm 5<|qc 456<|q2 14 (.mov (.l 1))<|qx 0<|qy 1<|qw 6<|qD 7<|q1 (.mov (.l 4))<|qe) <| r1 19 (qm 0<|qm 0<|q1 (.nilc (.l 1))<|qg 0<|ql 0<|qm 6<|q1 (.appd 1 (.l 4) (.l 5))<|q1 (.nilc (.l 0))<|qg 0<|qs 0 1 8 6<|qe))) <| r1 28 (q1 (.bin .add (.g 10) (ci 1))<|qv 10<|qe))
def c526 : C := rs 8 (q3 (.mov (.g 1))<|qH false<|q3 (.mov (ci 0))<|qe) <| bk 0 l526_0
def F526 : F := mF 2 [] none c526
attribute [go_sem] c526 F526
def c527 : C := rs 4 (qm 0<|qm 1<|qh false<|q1 (.mks 1 1 [.int .i64 0] [(0,.l 2)])<|q1 (.rcall 526 [.l 0,.l 3] 0 0 20000)<|qe) <| r1 9 (qm 0<|qm 1<|q1 (.rcall 526 [.l 0,.l 1] 0 0 20100)<|qe)
def F527 : F := mF 2 [] none c527
attribute [go_sem] c527 F527
def l528_0 : C := .loop [] [0,0,9000] [] [] (rs 9 (q3 (.bin .lss (.g 8) (.g 7))<|qe) <| sq (cd 9 .skip <| .exit 0) <| sq (bk 1 (rs 10 (q1 (.iad 1 (.g 6) (.g 8))<|qj<|qv 5<|qe) <| r2 12 (qm 0<|qm 0<|q1 (.nilc (.l 1))<|qg 0<|ql 0<|qm 5<|qc 484<|q1 (.appd 1 (.l 4) (.l 6))<|q1 (.nilc (.l 0))<|qg 0<|qs 0 1 9 7<|qe))) <| r1 22 (q1 (.bin .add (.g 8) (ci 1))<|qv 8<|qe))
def c528 : C := rs 6 (q3 (.mov (.g 1))<|qH false<|q3 (.mov (ci 0))<|qe) <| bk 0 l528_0
def F528 : F := mF 2 [] none c528
attribute [go_sem] c528 F528
def l529_0 : C := .loop [] [4,0,10400] [8] [21400] (rs 101 (q3 (.bin .lss (.g 100) (.g 99))<|qe) <| sq (cd 101 .skip <| .exit 0) <| sq (bk 1 (rs 102 (q1 (.iad 2 (.g 98) (.g 100))<|qJ 2<|qG 8 z_1<|qs 8 2 2 1<|qe) <| r1 104 (qr 8 0<|qr 8 1<|q1 (.mks 1 2 [.str []] [(0,.l 1),(1,.l 3)])<|q1 (.rcall 457 [.g 4,.l 4] 0 4 21400)<|qe))) <| r1 110 (q1 (.bin .add (.g 100) (ci 1))<|qv 100<|qe))
def l529_1 : C := .loop [] [4,0,10400] [10] [21800,21900] (rs 127 (q3 (.bin .lss (.g 126) (.g 125))<|qe) <| sq (cd 127 .skip <| .exit 2) <| sq (bk 3 (rs 128 (q1 (.iad 5 (.g 124) (.g 126))<|qJ 5<|qG 10 z_0<|qs 10 5 2 1<|qe) <| rs 130 (qf 10 0<|qg 0<|ql 10<|qf 10 0<|qg 1<|ql 10<|q1 (.mks 1 2 [.str []] [(0,.l 2),(1,.l 5)])<|q1 (.rcall 457 [.g 4,.l 6] 0 4 21800)<|qe) <| r1 138 (qr 10 2<|qr 10 3<|qr 10 4<|q1 (.mks 1 3 [.int .i64 0] [(0,.l 1),(1,.l 3),(2,.l 5)])<|q1 (.rcall 422 [.g 4,.l 6] 0 4 21900)<|qe))) <| r1 146 (q1 (.bin .add (.g 126) (ci 1))<|qv 126<|qe))
def c529 : C := rs 0 (qB 1 0<|qE 2<|qz 3 0<|qe) <| i1 11 (qb 1 36<|qc 341<|qN<|qe) 13 (rs 0 (qE 2<|qz 3 1<|qe) .ret) <| rs 4 (q3 (.allo [.nslice 1] 10400)<|qe) <| rs 14 (qr 1 0<|qr 1 1<|qr 1 2<|qr 1 3<|qr 1 4<|qr 1 5<|qr 1 6<|qr 1 7<|qr 1 8<|q1 (.mks 1 9 [.int .i64 0] [(0,.l 1),(1,.l 3),(2,.l 5),(3,.l 7),(4,.l 9),(5,.l 11),(6,.l 13),(7,.l 15),(8,.l 17)])<|q1 (.rcall 422 [.g 4,.l 18] 0 4 20000)<|qe) <| rs 34 (qR 1 9 3<|q1 (.mks 3 1 z_19 [(0,.l 1)])<|q1 (.rcall 421 [.g 4,.l 2] 0 4 20100)<|qe) <| rs 38 (qr 1 12<|q1 (.mks 1 1 [.str []] [(0,.l 1)])<|q1 (.rcall 457 [.g 4,.l 2] 0 4 20200)<|qe) <| rt 42 (qR 1 13 12<|qR 1 25 9<|qG 5 z_25<|qG 6 z_8<|qs 5 12 4 1<|qs 6 9 5 3<|qe) <| rs 46 (qr 5 0<|qr 5 1<|qr 5 2<|q1 (.mks 1 3 [.int .i64 0] [(0,.l 1),(1,.l 3),(2,.l 5)])<|q1 (.rcall 422 [.g 4,.l 6] 0 4 20300)<|qe) <| rs 54 (qr 5 3<|qr 5 4<|q1 (.mks 1 2 [.str []] [(0,.l 1),(1,.l 3)])<|q1 (.rcall 457 [.g 4,.l 4] 0 4 20400)<|qe) <| rs 60 (qr 5 5<|q1 (.rcall 458 [.g 4,.l 1] 0 4 20500)<|qe) <| rs 63 (qr 5 6<|q1 (.mks 1 1 [.str []] [(0,.l 1)])<|q1 (.rcall 457 [.g 4,.l 2] 0 4 20600)<|qe) <| rs 67 (qR 5 7 3<|q1 (.mks 3 1 z_19 [(0,.l 1)])<|q1 (.rcall 421 [.g 4,.l 2] 0 4 20700)<|qe) <| rs 71 (qr 5 10<|q1 (.mks 1 1 [.str []] [(0,.l 1)])<|q1 (.rcall 457 [.g 4,.l 2] 0 4 20800)<|qe) <| rs 75 (qr 5 11<|qr 6 0<|q1 (.mks 1 2 [.int .i64 0] [(0,.l 1),(1,.l 3)])<|q1 (.rcall 422 [.g 4,.l 4] 0 4 20900)<|qe) <| rs 81 (qR 6 1 3<|q1 (.mks 3 1 z_19 [(0,.l 1)])<|q1 (.rcall 421 [.g 4,.l 2] 0 4 21000)<|qe) <| rs 85 (qr 6 4<|q1 (.rcall 458 [.g 4,.l 1] 0 4 21100)<|qe) <| rs 88 (qr 6 5<|q1 (.mks 1 1 [.str []] [(0,.l 1)])<|q1 (.rcall 457 [.g 4,.l 2] 0 4 21200)<|qe) <| rs 92 (qr 6 6<|qh false<|q1 (.mks 1 1 [.int .i64 0] [(0,.l 2)])<|q1 (.rcall 422 [.g 4,.l 3] 0 4 21300)<|qe) <| sq (rs 97 (qf 6 6<|q3 (.load (.v 6) none (.l 0))<|qH false<|q3 (.mov (ci 0))<|qe) <| bk 0 l529_0) <| rs 111 (qr 6 7<|q1 (.mks 1 1 [.str []] [(0,.l 1)])<|q1 (.rcall 457 [.g 4,.l 2] 0 4 21500)<|qe) <| rs 115 (qr 6 8<|q1 (.rcall 458 [.g 4,.l 1] 0 4 21600)<|qe) <| rs 118 (qr 1 34<|qh false<|q1 (.mks 1 1 [.int .i64 0] [(0,.l 2)])<|q1 (.rcall 422 [.g 4,.l 3] 0 4 21700)<|qe) <| sq (rs 123 (qf 1 34<|q3 (.load (.v 1) none (.l 0))<|qH false<|q3 (.mov (ci 0))<|qe) <| bk 2 l529_1) <| rs 147 (qr 1 35<|qh false<|q1 (.mks 1 1 [.int .i64 0] [(0,.l 2)])<|q1 (.rcall 422 [.g 4,.l 3] 0 4 22000)<|qe) <| rs 152 (qr 1 35<|q1 (.rcall 422 [.g 4,.l 1] 0 4 22100)<|qe) <| rs 155 (qr 4 0<|q1 (.b2s (.l 1))<|qv 2<|qz 3 0<|qe) .ret
def F529 : F := mF 1 [.t 2,.t 3] none c529
attribute [go_sem] c529 F529
def c530 : C := rs 0 (qz 2 0<|qe) <| rs 7 (qm 0<|q1 (.nilc (.l 0))<|qg 0<|ql 0<|qc 491<|q2 6 (.mov (.l 4))<|qx 0<|qy 1<|qY 5 2<|qV 3 6<|qV 4 7<|qV 5 8<|qe) <| rs 15 (qm 0<|qm 3<|qm 4<|qm 5<|q1 (.rcall 565 [.l 0,.l 1,.l 2,.l 3] 0 0 20000)<|qv 2<|qe) .ret
def F530 : F := mF 1 [.t 2] none c530
attribute [go_sem] c530 F530
def c531 : C := rs 0 (qz 2 0<|qe) <| rs 4 (qm 0<|q1 (.rcall 530 [.l 0] 0 0 20000)<|qv 3<|qe) <| i1 6 (qm 3<|qm 0<|q1 (.nilc (.l 1))<|qg 0<|ql 0<|qh true<|qQ .gtr 0<|qe) 12 (rs 13 (qm 0<|q1 (.nilc (.l 0))<|qg 1<|q5 (.store (.v 0) 1 (.l 2) (cb true))<|qe) <| rs 0 (qz 2 0<|qe) .ret) <| rs 16 (qm 3<|qv 2<|qe) .ret
def F531 : F := mF 1 [.t 2] none c531
attribute [go_sem] c531 F531
def l532_0 : C := .loop [] [] [6] [] (rs 29 (q3 (.bin .lss (.g 28) (.g 27))<|qe) <| sq (cd 29 .skip <| .exit 0) <| sq (bk 1 (rs 31 (qm 0<|q1 (.rcall 539 [.l 0] 0 0 20800)<|q1 (.call (.k 566) .freeze none [.l 1])<|q2 30 (.mov (.l 2))<|qx 0<|qy 1<|qG 6 z_22<|qs 6 36 6 4<|qV 7 5<|qe) <| rs 36 (qm 0<|qm 0<|q1 (.nilc (.l 1))<|qg 1<|ql 0<|yo<|qm 7<|qk .neq 0<|zo 5<|q1 (.nilc (.l 0))<|qg 1<|qs 0 1 10 8<|qe) <| r1 47 (qr 5 8<|qb 6 36<|q1 (.mks 36 1 z_22 [(0,.l 2)])<|q1 (.app 51 36 (.l 1) (.l 3))<|qf 5 8<|qs 5 1 5 4<|qe))) <| r1 53 (q1 (.bin .add (.g 28) (ci 1))<|qv 28<|qe))
def c532 : C := rs 0 (qG 4 z_16<|qe) <| rs 8 (qm 0<|q1 (.rcall 530 [.l 0] 0 0 20000)<|q1 (.build [.int .i64 0,.int .i64 0,.int .i64 0,.slice 1 [],.int .i64 0,.str [],.str [],.slice 1 [],.nslice 36] [(0,1,.l 1)])<|qG 5 z_29<|qs 5 9 3 2<|qe) <| rs 11 (qm 1<|qm 0<|q1 (.rcall 530 [.l 1] 0 0 20100)<|qm 0<|q1 (.rcall 540 [.l 3] 0 0 20200)<|qm 0<|q1 (.rcall 530 [.l 5] 0 0 20300)<|qm 0<|q1 (.rcall 539 [.l 7] 0 0 20400)<|qm 0<|q1 (.rcall 539 [.l 9] 0 0 20500)<|qm 0<|q1 (.rcall 540 [.l 11] 0 0 20600)<|q1 (.build z_4 [(0,1,.l 0),(1,1,.l 2),(2,1,.l 4),(3,1,.l 6),(4,1,.l 8),(5,1,.l 10),(6,1,.l 12)])<|qf 5 1<|qs 5 7 14 13<|qe) <| sq (rs 26 (qm 0<|q3 (.rcall 531 [.l 0] 0 0 20700)<|q3 (.mov (ci 0))<|qe) <| bk 0 l532_0) <| rs 54 (qb 5 9<|qt 4 9 0<|qe) .ret
def F532 : F := mF 2 [.cell 4 (some 9)] none c532
attribute [go_sem] c532 F532
def c533 : C := rs 0 (qE 2<|qe) <| rs 6 (qm 0<|qc 487<|q2 5 (.mov (.l 1))<|qx 0<|qy 1<|qw 3<|qD 4<|q1 (.mov (.l 4))<|qe) <| rs 10 (qm 3<|qv 2<|qe) .ret
def F533 : F := mF 1 [.t 2] none c533
attribute [go_sem] c533 F533
def l534_0 : C := .loop [] [] [] [] (lq 8 (qm 4<|qm 0<|qh false<|qQ .lss 0<|qe) 11 0 <| sq (bk 1 (r1 14 (qm 3<|qm 0<|qm 4<|qi 1<|qj<|qc 533<|qq .add 0<|qv 3<|qe))) <| r1 12 (qm 4<|qk .add 1<|qv 4<|qe))
def c534 : C := rs 0 (qE 2<|qe) <| rs 5 (qm 0<|qh false<|qc 533<|qv 3<|qe) <| sq (rs 0 (qz 4 0<|qe) <| bk 0 l534_0) <| rs 21 (qm 3<|qv 2<|qe) .ret
def F534 : F := mF 1 [.t 2] none c534
attribute [go_sem] c534 F534
def c535 : C := rs 0 (qE 2<|qe) <| rs 3 (qm 0<|qc 503<|qv 2<|qe) .ret
def F535 : F := mF 1 [.t 2] none c535
attribute [go_sem] c535 F535
def l536_0 : C := .loop [] [] [] [] (lq 120 (qm 6<|qr 4 6<|qh false<|qQ .lss 0<|qe) 124 0 <| sq (bk 1 (r2 127 (qm 5<|qr 4 6<|qm 6<|qi 2<|qg 0<|qj<|qc 488<|qq .add 0<|qr 4 6<|qm 6<|qi 2<|qg 1<|qj<|qc 488<|qq .add 8<|qv 5<|qe))) <| r1 125 (qm 6<|qk .add 1<|qv 6<|qe))
def l536_1 : C := .loop [] [] [8] [] (lq 158 (qm 7<|qr 1 34<|qh false<|qQ .lss 0<|qe) 162 2 <| sq (bk 3 (rs 165 (qr 1 34<|qm 7<|qi 5<|qJ 5<|qG 8 z_0<|qs 8 5 5 4<|qe) <| r2 170 (qm 5<|qf 8 0<|qg 0<|ql 8<|qc 488<|qq .add 0<|qf 8 0<|qg 1<|ql 8<|qc 488<|qq .add 5<|qr 8 2<|qc 460<|qq .add 10<|qr 8 3<|qc 460<|qq .add 14<|qr 8 4<|qc 460<|qq .add 18<|qv 5<|qe))) <| r1 163 (qm 7<|qk .add 1<|qv 7<|qe))
def l536_2 : C := .loop [] [] [] [] (lq 199 (qm 9<|qr 1 35<|qh false<|qQ .lss 0<|qe) 203 4 <| sq (bk 5 (r1 206 (qm 5<|qr 1 35<|qm 9<|qi 1<|qj<|qc 460<|qq .add 0<|qv 5<|qe))) <| r1 204 (qm 9<|qk .add 1<|qv 9<|qe))
def c536 : C := rs 0 (qB 1 0<|qE 2<|qe) <| rt 10 (qR 1 13 12<|qR 1 25 9<|qG 3 z_25<|qG 4 z_8<|qs 3 12 4 1<|qs 4 9 5 3<|qe) <| rt 14 (qr 1 0<|qc 460<|qr 1 1<|qc 460<|qq .add 2<|qr 1 2<|qc 460<|qq .add 6<|qr 1 3<|qc 460<|qq .add 10<|qr 1 4<|qc 460<|qq .add 14<|qr 1 5<|qc 460<|qq .add 18<|qr 1 6<|qc 460<|qq .add 22<|qr 1 7<|qc 460<|qq .add 26<|qr 1 8<|qc 460<|qq .add 30<|qR 1 9 3<|qc 459<|qq .add 34<|qr 1 12<|qc 488<|qq .add 38<|qv 5<|qe) <| rt 57 (qm 5<|qr 3 0<|qc 460<|qq .add 0<|qr 3 1<|qc 460<|qq .add 4<|qr 3 2<|qc 460<|qq .add 8<|qr 3 3<|qc 488<|qq .add 12<|qr 3 4<|qc 488<|qq .add 16<|qr 3 5<|qc 489<|qq .add 20<|qr 3 6<|qc 488<|qq .add 24<|qR 3 7 3<|qc 459<|qq .add 28<|qr 3 10<|qc 488<|qq .add 32<|qr 3 11<|qc 460<|qq .add 36<|qv 5<|qe) <| rt 98 (qm 5<|qr 4 0<|qc 460<|qq .add 0<|qR 4 1 3<|qc 459<|qq .add 4<|qr 4 4<|qc 489<|qq .add 8<|qr 4 5<|qc 488<|qq .add 12<|qr 4 6<|qh false<|qc 460<|qq .add 16<|qv 5<|qe) <| sq (rs 0 (qz 6 0<|qe) <| bk 0 l536_0) <| rt 144 (qm 5<|qr 4 7<|qc 488<|qq .add 0<|qr 4 8<|qc 489<|qq .add 4<|qr 1 34<|qh false<|qc 460<|qq .add 8<|qv 5<|qe) <| sq (rs 0 (qz 7 0<|qe) <| bk 2 l536_1) <| rs 193 (qm 5<|qr 1 35<|qh false<|qc 460<|qq .add 0<|qv 5<|qe) <| sq (rs 0 (qz 9 0<|qe) <| bk 4 l536_2) <| rs 214 (qm 5<|qv 2<|qe) .ret
def F536 : F := mF 1 [.t 2] none c536
attribute [go_sem] c536 F536
def c539 : C := rs 0 (qE 2<|qe) <| rs 7 (qm 0<|q1 (.nilc (.l 0))<|qg 0<|ql 0<|qc 506<|q2 6 (.mov (.l 4))<|qx 0<|qy 1<|qY 5 2<|qV 3 6<|qV 4 7<|qV 5 8<|qe) <| rs 15 (qm 0<|qm 3<|qm 4<|qm 5<|q1 (.rcall 567 [.l 0,.l 1,.l 2,.l 3] 0 0 20000)<|qv 2<|qe) .ret
def F539 : F := mF 1 [.t 2] none c539
attribute [go_sem] c539 F539
def l540_0 : C := .loop [] [] [] [] (rs 7 (q3 (.bin .lss (.g 6) (.g 5))<|qe) <| sq (cd 7 .skip <| .exit 0) <| sq (bk 1 (r1 8 (qm 3<|qm 0<|q1 (.rcall 530 [.l 1] 0 0 20100)<|q1 (.mks 1 1 [.int .i64 0] [(0,.l 2)])<|q1 (.app 3 1 (.l 0) (.l 3))<|qv 3<|qe))) <| r1 13 (q1 (.bin .add (.g 6) (ci 1))<|qv 6<|qe))
def c540 : C := rs 0 (qS 2 1<|qe) <| rs 3 (q3 (.mko 1)<|qe) <| sq (rs 4 (qm 0<|q3 (.rcall 531 [.l 0] 0 0 20000)<|q3 (.mov (ci 0))<|qe) <| bk 0 l540_0) <| rs 14 (qm 3<|qv 2<|qe) .ret
def F540 : F := mF 1 [.t 2] none c540
attribute [go_sem] c540 F540
def c541 : C := rs 0 (qF 2<|qe) <| rs 7 (qm 0<|q1 (.nilc (.l 0))<|qg 0<|ql 0<|qc 507<|q2 6 (.mov (.l 4))<|qx 0<|qy 1<|qY 5 2<|qV 3 6<|qV 4 7<|qV 5 8<|qe) <| rs 15 (qm 0<|qm 3<|qm 4<|qm 5<|q1 (.rcall 568 [.l 0,.l 1,.l 2,.l 3] 0 0 20000)<|qv 2<|qe) .ret
def F541 : F := mF 1 [.t 2] none c541
attribute [go_sem] c541 F541
def c542 : C := rs 0 (qG 2 z_19<|qe) <| rs 7 (qm 0<|q1 (.nilc (.l 0))<|qg 0<|ql 0<|qc 490<|q2 6 (.mov (.l 4))<|qx 0<|qy 1<|qY 5 2<|qG 3 z_19<|qs 3 3 9 6<|qV 4 7<|qV 5 8<|qe) <| rs 15 (qm 0<|qb 3 3<|qm 4<|qm 5<|q1 (.rcall 569 [.l 0,.l 1,.l 2,.l 3] 0 0 20000)<|qt 2 3 4<|qe) .ret
def F542 : F := mF 1 [.cell 2 (some 3)] none c542
attribute [go_sem] c542 F542
def l543_0 : C := .loop [] [] [] [] (rs 34 (q3 (.bin .lss (.g 33) (.g 32))<|qe) <| sq (cd 34 .skip <| .exit 0) <| sq (bk 1 (r2 35 (qr 3 9<|qm 0<|q1 (.rcall 539 [.l 2] 0 0 21000)<|q1 (.mks 1 1 [.str []] [(0,.l 3)])<|q1 (.app 40 1 (.l 1) (.l 4))<|qf 3 9<|qs 3 1 6 5<|qe))) <| r1 42 (q1 (.bin .add (.g 33) (ci 1))<|qv 33<|qe))
def c543 : C := rs 0 (qG 2 z_28<|qe) <| rs 0 (qG 3 z_31<|qe) <| rs 4 (qm 0<|q1 (.rcall 530 [.l 0] 0 0 20000)<|qm 0<|q1 (.rcall 530 [.l 2] 0 0 20100)<|qm 0<|q1 (.rcall 530 [.l 4] 0 0 20200)<|qm 0<|q1 (.rcall 530 [.l 6] 0 0 20300)<|qf 3 0<|qs 3 1 8 1<|qf 3 1<|qs 3 1 10 3<|qf 3 2<|qs 3 1 12 5<|qf 3 3<|qs 3 1 14 7<|qe) <| rs 16 (qm 0<|q1 (.rcall 530 [.l 0] 0 0 20400)<|qm 0<|q1 (.rcall 530 [.l 2] 0 0 20500)<|qm 0<|q1 (.rcall 530 [.l 4] 0 0 20600)<|qm 0<|q1 (.rcall 530 [.l 6] 0 0 20700)<|qf 3 4<|qs 3 1 8 1<|qf 3 5<|qs 3 1 10 3<|qf 3 6<|qs 3 1 12 5<|qf 3 7<|qs 3 1 14 7<|qe) <| rs 28 (qm 0<|q1 (.rcall 539 [.l 0] 0 0 20800)<|qf 3 8<|qs 3 1 2 1<|qe) <| sq (rs 31 (qm 0<|q3 (.rcall 531 [.l 0] 0 0 20900)<|q3 (.mov (ci 0))<|qe) <| bk 0 l543_0) <| rs 43 (qm 0<|q1 (.rcall 530 [.l 0] 0 0 21100)<|qm 0<|q1 (.rcall 530 [.l 2] 0 0 21200)<|qm 0<|q1 (.rcall 530 [.l 4] 0 0 21300)<|qf 3 10<|qs 3 1 6 1<|qf 3 11<|qs 3 1 8 3<|qf 3 12<|qs 3 1 10 5<|qe) <| rs 52 (qm 0<|q1 (.rcall 539 [.l 0] 0 0 21400)<|qm 0<|q1 (.rcall 539 [.l 2] 0 0 21500)<|qf 3 13<|qg 0<|qs 3 1 5 1<|qf 3 13<|qg 1<|qs 3 1 8 3<|qe) <| rs 60 (qm 0<|q1 (.rcall 540 [.l 0] 0 0 21600)<|qm 0<|q1 (.rcall 542 [.l 2] 0 0 21700)<|qm 0<|q1 (.rcall 540 [.l 4] 0 0 21800)<|qf 3 15<|qs 3 1 6 1<|qf 3 16<|qs 3 3 8 3<|qf 3 19<|qs 3 1 10 5<|qe) <| rs 69 (qb 3 20<|qt 2 20 0<|qe) .ret
def F543 : F := mF 1 [.cell 2 (some 20)] none c543
attribute [go_sem] c543 F543
def c544 : C := rs 0 (qB 1 0<|qE 2<|qe) <| rs 3 (qb 1 3<|qc 486<|qv 2<|qe) .ret
def F544 : F := mF 1 [.t 2] none c544
attribute [go_sem] c544 F544
def c545 : C := rs 0 (qz 2 0<|qe) <| rs 7 (qm 0<|q1 (.nilc (.l 0))<|qg 0<|ql 0<|qc 470<|q2 6 (.mov (.l 4))<|qx 0<|qy 1<|qY 5 2<|qV 3 6<|qV 4 7<|qV 5 8<|qe) <| rs 15 (qm 0<|qm 0<|q1 (.nilc (.l 1))<|qg 1<|ql 0<|yo<|qm 5<|qk .neq 0<|zo 5<|q1 (.nilc (.l 0))<|qg 1<|qs 0 1 10 8<|qe) <| rs 26 (qm 0<|qm 4<|q1 (.nilc (.l 0))<|qg 0<|qs 0 1 3 1<|qe) <| rs 30 (qm 3<|qv 2<|qe) .ret
def F545 : F := mF 1 [.t 2] none c545
attribute [go_sem] c545 F545
def l546_0 : C := .loop [] [] [] [] (lq 8 (qm 5<|qm 4<|qq .lss 0<|ya<|qm 0<|q1 (.nilc (.l 4))<|qg 1<|ql 0<|qn<|zA 3<|qe) 17 0 <| sq (bk 1 (r1 20 (qm 3<|qm 0<|q1 (.rcall 545 [.l 1] 0 0 20100)<|q1 (.mks 1 1 [.int .i64 0] [(0,.l 2)])<|q1 (.app 3 1 (.l 0) (.l 3))<|qv 3<|qe))) <| r1 18 (qm 5<|qk .add 1<|qv 5<|qe))
def c546 : C := rs 0 (qS 2 1<|qe) <| rs 3 (q3 (.mko 1)<|qe) <| rs 6 (qm 0<|q1 (.rcall 545 [.l 0] 0 0 20000)<|qv 4<|qe) <| sq (rs 0 (qz 5 0<|qe) <| bk 0 l546_0) <| rs 25 (qm 3<|qv 2<|qe) .ret
def F546 : F := mF 1 [.t 2] none c546
attribute [go_sem] c546 F546
def c547 : C := rs 0 (qE 2<|qe) <| rs 7 (qm 0<|q1 (.nilc (.l 0))<|qg 0<|ql 0<|qc 494<|q2 6 (.mov (.l 4))<|qx 0<|qy 1<|qY 5 2<|qV 3 6<|qV 4 7<|qV 5 8<|qe) <| rs 15 (qm 0<|qm 0<|q1 (.nilc (.l 1))<|qg 1<|ql 0<|yo<|qm 5<|qk .neq 0<|zo 5<|q1 (.nilc (.l 0))<|qg 1<|qs 0 1 10 8<|qe) <| rs 26 (qm 0<|qm 4<|q1 (.nilc (.l 0))<|qg 0<|qs 0 1 3 1<|qe) <| rs 30 (qm 3<|qv 2<|qe) .ret
def F547 : F := mF 1 [.t 2] none c547
attribute [go_sem] c547 F547
def l548_0 : C := .loop [] [] [8] [] (lq 106 (qm 7<|qm 6<|qq .lss 0<|ya<|qm 4<|q1 (.nilc (.l 4))<|qg 1<|ql 14<|qn<|zA 3<|qe) 115 0 <| sq (bk 1 (rs 118 (qm 4<|q1 (.rcall 471 [.l 0] 0 14 22600)<|q1 (.build z_1 [(0,1,.l 1)])<|qG 8 z_1<|qs 8 2 3 2<|qe) <| rs 121 (qm 4<|q1 (.rcall 471 [.l 0] 0 14 22700)<|qf 8 1<|qs 8 1 2 1<|qe) <| r1 124 (qf 5 25<|qg 6<|ql 5<|qb 8 2<|q1 (.mks 2 1 z_1 [(0,.l 3)])<|q1 (.app 129 2 (.l 2) (.l 4))<|qf 5 25<|qg 6<|qs 5 1 7 5<|qe))) <| r1 116 (qm 7<|qk .add 1<|qv 7<|qe))
def l548_1 : C := .loop [] [] [10] [] (lq 142 (qm 9<|qm 6<|qq .lss 0<|ya<|qm 4<|q1 (.nilc (.l 4))<|qg 1<|ql 14<|qn<|zA 3<|qe) 151 2 <| sq (bk 3 (rs 154 (qm 4<|q1 (.rcall 471 [.l 0] 0 14 23100)<|q1 (.build z_1 [(0,1,.l 1)])<|q1 (.build z_0 [(0,2,.l 2)])<|qG 10 z_0<|qs 10 5 4 3<|qe) <| rs 158 (qm 4<|q1 (.rcall 471 [.l 0] 0 14 23200)<|qf 10 0<|qg 1<|qs 10 1 3 1<|qe) <| rs 162 (qm 4<|q1 (.rcall 435 [.l 0] 0 14 23300)<|qf 10 2<|qs 10 1 2 1<|qe) <| rs 165 (qm 4<|q1 (.rcall 435 [.l 0] 0 14 23400)<|qf 10 3<|qs 10 1 2 1<|qe) <| rs 168 (qm 4<|q1 (.rcall 435 [.l 0] 0 14 23500)<|qf 10 4<|qs 10 1 2 1<|qe) <| r1 171 (qr 5 34<|qb 10 5<|q1 (.mks 5 1 z_0 [(0,.l 2)])<|q1 (.app 175 5 (.l 1) (.l 3))<|qf 5 34<|qs 5 1 5 4<|qe))) <| r1 152 (qm 9<|qk .add 1<|qv 9<|qe))
def l548_2 : C := .loop [] [] [] [] (lq 179 (qm 11<|qm 6<|qq .lss 0<|ya<|qm 4<|q1 (.nilc (.l 4))<|qg 1<|ql 14<|qn<|zA 3<|qe) 188 4 <| sq (bk 5 (r2 191 (qr 5 35<|qm 4<|q1 (.rcall 435 [.l 2] 0 14 23700)<|q1 (.mks 1 1 [.int .i64 0] [(0,.l 3)])<|q1 (.app 196 1 (.l 1) (.l 4))<|qf 5 35<|qs 5 1 6 5<|qe))) <| r1 189 (qm 11<|qk .add 1<|qv 11<|qe))
def c548 : C := rs 0 (qG 2 z_22<|qF 3<|qe) <| rs 12 (qm 0<|q1 (.build z_20 [(0,1,.l 0)])<|q1 (.box (.l 1))<|qv 4<|qe) <| rs 15 (qm 4<|q1 (.rcall 435 [.l 0] 0 14 20000)<|q1 (.build [.int .i64 0,.int .i64 0,.int .i64 0,.int .i64 0,.int .i64 0,.int .i64 0,.int .i64 0,.int .i64 0,.int .i64 0,.int .i64 0,.int .i64 0,.int .i64 0,.str [],.int .i64 0,.int .i64 0,.int .i64 0,.str [],.str [],.bool false,.str [],.int .i64 0,.int .i64 0,.int .i64 0,.str [],.int .i64 0,.int .i64 0,.int .i64 0,.int .i64 0,.int .i64 0,.bool false,.str [],.nslice 2,.str [],.bool false,.nslice 5,.nslice 1] [(0,1,.l 1)])<|qG 5 z_32<|qs 5 36 3 2<|qe) <| rs 18 (qm 4<|q1 (.rcall 435 [.l 0] 0 14 20100)<|qf 5 1<|qs 5 1 2 1<|qe) <| rs 21 (qm 4<|q1 (.rcall 435 [.l 0] 0 14 20200)<|qf 5 2<|qs 5 1 2 1<|qe) <| rs 24 (qm 4<|q1 (.rcall 435 [.l 0] 0 14 20300)<|qf 5 3<|qs 5 1 2 1<|qe) <| rs 27 (qm 4<|q1 (.rcall 435 [.l 0] 0 14 20400)<|qf 5 4<|qs 5 1 2 1<|qe) <| rs 30 (qm 4<|q1 (.rcall 435 [.l 0] 0 14 20500)<|qf 5 5<|qs 5 1 2 1<|qe) <| rs 33 (qm 4<|q1 (.rcall 435 [.l 0] 0 14 20600)<|qf 5 6<|qs 5 1 2 1<|qe) <| rs 36 (qm 4<|q1 (.rcall 435 [.l 0] 0 14 20700)<|qf 5 7<|qs 5 1 2 1<|qe) <| rs 39 (qm 4<|q1 (.rcall 435 [.l 0] 0 14 20800)<|qf 5 8<|qs 5 1 2 1<|qe) <| rs 42 (qm 4<|q1 (.rcall 434 [.l 0] 0 14 20900)<|qf 5 9<|qs 5 3 2 1<|qe) <| rs 45 (qm 4<|q1 (.rcall 471 [.l 0] 0 14 21000)<|qf 5 12<|qs 5 1 2 1<|qe) <| rs 48 (qm 4<|q1 (.rcall 435 [.l 0] 0 14 21100)<|qf 5 13<|qg 0<|qs 5 1 3 1<|qe) <| rs 52 (qm 4<|q1 (.rcall 435 [.l 0] 0 14 21200)<|qf 5 13<|qg 1<|qs 5 1 3 1<|qe) <| rs 56 (qm 4<|q1 (.rcall 435 [.l 0] 0 14 21300)<|qf 5 13<|qg 2<|qs 5 1 3 1<|qe) <| rs 60 (qm 4<|q1 (.rcall 471 [.l 0] 0 14 21400)<|qf 5 13<|qg 3<|qs 5 1 3 1<|qe) <| rs 64 (qm 4<|q1 (.rcall 471 [.l 0] 0 14 21500)<|qf 5 13<|qg 4<|qs 5 1 3 1<|qe) <| rs 68 (qm 4<|q1 (.rcall 472 [.l 0] 0 14 21600)<|qf 5 13<|qg 5<|qs 5 1 3 1<|qe) <| rs 72 (qm 4<|q1 (.rcall 471 [.l 0] 0 14 21700)<|qf 5 13<|qg 6<|qs 5 1 3 1<|qe) <| rs 76 (qm 4<|q1 (.rcall 434 [.l 0] 0 14 21800)<|qf 5 13<|qg 7<|qs 5 3 3 1<|qe) <| rs 80 (qm 4<|q1 (.rcall 471 [.l 0] 0 14 21900)<|qf 5 13<|qg 10<|qs 5 1 3 1<|qe) <| rs 84 (qm 4<|q1 (.rcall 435 [.l 0] 0 14 22000)<|qf 5 13<|qg 11<|qs 5 1 3 1<|qe) <| rs 88 (qm 4<|q1 (.rcall 435 [.l 0] 0 14 22100)<|qf 5 25<|qg 0<|qs 5 1 3 1<|qe) <| rs 92 (qm 4<|q1 (.rcall 434 [.l 0] 0 14 22200)<|qf 5 25<|qg 1<|qs 5 3 3 1<|qe) <| rs 96 (qm 4<|q1 (.rcall 472 [.l 0] 0 14 22300)<|qf 5 25<|qg 4<|qs 5 1 3 1<|qe) <| rs 100 (qm 4<|q1 (.rcall 471 [.l 0] 0 14 22400)<|qf 5 25<|qg 5<|qs 5 1 3 1<|qe) <| rs 104 (qm 4<|q1 (.rcall 435 [.l 0] 0 14 22500)<|qv 6<|qe) <| sq (rs 0 (qz 7 0<|qe) <| bk 0 l548_0) <| rs 132 (qm 4<|q1 (.rcall 471 [.l 0] 0 14 22800)<|qf 5 25<|qg 7<|qs 5 1 3 1<|qe) <| rs 136 (qm 4<|q1 (.rcall 472 [.l 0] 0 14 22900)<|qf 5 25<|qg 8<|qs 5 1 3 1<|qe) <| rs 140 (qm 4<|q1 (.rcall 435 [.l 0] 0 14 23000)<|qv 6<|qe) <| sq (rs 0 (qz 9 0<|qe) <| bk 2 l548_1) <| rs 177 (qm 4<|q1 (.rcall 435 [.l 0] 0 14 23600)<|qv 6<|qe) <| sq (rs 0 (qz 11 0<|qe) <| bk 4 l548_2) <| i1 198 (qm 4<|q1 (.nilc (.l 0))<|qg 1<|ql 14<|yo<|qb 5 36<|q1 (.call (.k 414) .borrow none [.l 5])<|qn<|zo 4<|yo<|qb 5 36<|q1 (.call (.k 536) .borrow none [.l 10])<|qm 0<|qq .neq 11<|zO 9<|qe) 212 (rs 213 (q1 (.build z_22 [])<|qt 2 36 0<|qF 3<|qe) .ret) <| rs 214 (qb 5 36<|qt 2 36 0<|qT 3<|qe) .ret
def F548 : F := mF 1 [.cell 2 (some 36),.t 3] none c548
attribute [go_sem] c548 F548
def c549 : C := rs 0 (qF 2<|qe) <| rs 7 (qm 0<|q1 (.nilc (.l 0))<|qg 0<|ql 0<|qc 495<|q2 6 (.mov (.l 4))<|qx 0<|qy 1<|qY 5 2<|qV 3 6<|qV 4 7<|qV 5 8<|qe) <| rs 15 (qm 0<|qm 0<|q1 (.nilc (.l 1))<|qg 1<|ql 0<|yo<|qm 5<|qk .neq 0<|zo 5<|q1 (.nilc (.l 0))<|qg 1<|qs 0 1 10 8<|qe) <| rs 26 (qm 0<|qm 4<|q1 (.nilc (.l 0))<|qg 0<|qs 0 1 3 1<|qe) <| rs 30 (qm 3<|qv 2<|qe) .ret
def F549 : F := mF 1 [.t 2] none c549
attribute [go_sem] c549 F549
def c550 : C := rs 0 (qG 2 z_19<|qe) <| rs 7 (qm 0<|q1 (.nilc (.l 0))<|qg 0<|ql 0<|qc 469<|q2 6 (.mov (.l 4))<|qx 0<|qy 1<|qY 5 2<|qG 3 z_19<|qs 3 3 9 6<|qV 4 7<|qV 5 8<|qe) <| rs 15 (qm 0<|qm 0<|q1 (.nilc (.l 1))<|qg 1<|ql 0<|yo<|qm 5<|qk .neq 0<|zo 5<|q1 (.nilc (.l 0))<|qg 1<|qs 0 1 10 8<|qe) <| rs 26 (qm 0<|qm 4<|q1 (.nilc (.l 0))<|qg 0<|qs 0 1 3 1<|qe) <| rs 30 (qb 3 3<|qt 2 3 0<|qe) .ret
def F550 : F := mF 1 [.cell 2 (some 3)] none c550
attribute [go_sem] c550 F550
def l551_0 : C := .loop [] [] [] [] (lq 35 (qm 5<|qm 4<|qq .lss 0<|ya<|qm 0<|q1 (.nilc (.l 4))<|qg 1<|ql 0<|qn<|zA 3<|qe) 44 0 <| sq (bk 1 (r2 47 (qr 3 9<|qm 0<|q1 (.rcall 547 [.l 2] 0 0 21000)<|q1 (.mks 1 1 [.str []] [(0,.l 3)])<|q1 (.app 52 1 (.l 1) (.l 4))<|qf 3 9<|qs 3 1 6 5<|qe))) <| r1 45 (qm 5<|qk .add 1<|qv 5<|qe))
def c551 : C := rs 0 (qG 2 z_28<|qe) <| rs 6 (qm 0<|q1 (.rcall 545 [.l 0] 0 0 20000)<|q1 (.build [.int .i64 0,.int .i64 0,.int .i64 0,.int .i64 0,.int .i64 0,.int .i64 0,.int .i64 0,.int .i64 0,.str [],.nslice 1,.int .i64 0,.int .i64 0,.int .i64 0,.str [],.str [],.slice 1 [],.int .i64 0,.int .i64 0,.int .i64 0,.slice 1 []] [(0,1,.l 1)])<|qG 3 z_31<|qs 3 20 3 2<|qe) <| rs 9 (qm 0<|q1 (.rcall 545 [.l 0] 0 0 20100)<|qf 3 1<|qs 3 1 2 1<|qe) <| rs 12 (qm 0<|q1 (.rcall 545 [.l 0] 0 0 20200)<|qf 3 2<|qs 3 1 2 1<|qe) <| rs 15 (qm 0<|q1 (.rcall 545 [.l 0] 0 0 20300)<|qf 3 3<|qs 3 1 2 1<|qe) <| rs 18 (qm 0<|q1 (.rcall 545 [.l 0] 0 0 20400)<|qf 3 4<|qs 3 1 2 1<|qe) <| rs 21 (qm 0<|q1 (.rcall 545 [.l 0] 0 0 20500)<|qf 3 5<|qs 3 1 2 1<|qe) <| rs 24 (qm 0<|q1 (.rcall 545 [.l 0] 0 0 20600)<|qf 3 6<|qs 3 1 2 1<|qe) <| rs 27 (qm 0<|q1 (.rcall 545 [.l 0] 0 0 20700)<|qf 3 7<|qs 3 1 2 1<|qe) <| rs 30 (qm 0<|q1 (.rcall 547 [.l 0] 0 0 20800)<|qf 3 8<|qs 3 1 2 1<|qe) <| rs 33 (qm 0<|q1 (.rcall 545 [.l 0] 0 0 20900)<|qv 4<|qe) <| sq (rs 0 (qz 5 0<|qe) <| bk 0 l551_0) <| rs 54 (qm 0<|q1 (.rcall 545 [.l 0] 0 0 21100)<|qf 3 10<|qs 3 1 2 1<|qe) <| rs 57 (qm 0<|q1 (.rcall 545 [.l 0] 0 0 21200)<|qf 3 11<|qs 3 1 2 1<|qe) <| rs 60 (qm 0<|q1 (.rcall 545 [.l 0] 0 0 21300)<|qf 3 12<|qs 3 1 2 1<|qe) <| rs 63 (qm 0<|q1 (.rcall 547 [.l 0] 0 0 21400)<|qf 3 13<|qg 0<|qs 3 1 3 1<|qe) <| rs 67 (qm 0<|q1 (.rcall 547 [.l 0] 0 0 21500)<|qf 3 13<|qg 1<|qs 3 1 3 1<|qe) <| rs 71 (qm 0<|q1 (.rcall 546 [.l 0] 0 0 21600)<|qf 3 15<|qs 3 1 2 1<|qe) <| rs 74 (qm 0<|q1 (.rcall 550 [.l 0] 0 0 21700)<|qf 3 16<|qs 3 3 2 1<|qe) <| rs 77 (qm 0<|q1 (.rcall 546 [.l 0] 0 0 21800)<|qf 3 19<|qs 3 1 2 1<|qe) <| rs 80 (qb 3 20<|qt 2 20 0<|qe) .ret
def F551 : F := mF 1 [.cell 2 (some 20)] none c551
attribute [go_sem] c551 F551
def c552 : C := rs 2 (qB 1 0<|q3 (.mov (.c (.niface)))<|qe) <| i1 3 (qr 1 0<|qK .eql 0<|qe) 5 (rs 6 (qR 1 8 29<|q1 (.build z_13 [(0,29,.l 1)])<|q1 (.mif 226 (.l 2))<|qv 2<|qe) .ret) <| rs 10 (qR 1 6 2<|q1 (.build z_17 [(0,2,.l 1)])<|q1 (.mif 228 (.l 2))<|qv 2<|qe) .ret
def F552 : F := mF 1 [.t 2] none c552
attribute [go_sem] c552 F552
def c554 : C := rs 0 (qB 1 0<|qE 2<|qe) <| rs 6 (qR 1 0 2<|qc 511<|q2 5 (.mov (.l 2))<|qx 0<|qy 1<|qw 3<|qD 4<|q1 (.mov (.l 5))<|qe) <| rs 11 (qm 3<|qv 2<|qe) .ret
def F554 : F := mF 1 [.t 2] none c554
attribute [go_sem] c554 F554
def c555 : C := rs 0 (qB 2 0<|qG 4 z_30<|qz 5 0<|qe) <| rs 9 (qm 1<|qc 570<|q2 8 (.mov (.l 1))<|qx 0<|qy 1<|qw 6<|qw 7<|qe) <| i1 13 (qm 7<|qK .neq 0<|qe) 14 (rs 15 (qb 2 5<|qm 7<|qt 4 5 0<|qw 5<|qe) .ret) <| sq (rs 18 (qb 2 5<|qm 6<|qd 571<|q2 17 (.mov (.l 2))<|qx 0<|qy 1<|qt 2 5 4<|qw 7<|qe) <| rs 23 (qm 7<|qK .neq 0<|qe) <| cd 24 (rs 25 (qb 2 5<|qm 7<|qt 4 5 0<|qw 5<|qe) .ret) .skip) <| rs 27 (qb 2 5<|qc 572<|qx 0<|qy 1<|qt 4 5 2<|qw 5<|qe) .ret
def F555 : F := mF 2 [.cell 4 (some 5),.t 5] none c555
attribute [go_sem] c555 F555
def c556 : C := rs 0 (qB 1 0<|qF 2<|qe) <| i1 3 (qr 1 0<|qk .lss 0<|yo<|qr 1 0<|qk .gtr 3<|zo 3<|yo<|qR 1 1 5<|qc 573<|qn<|zo 8<|yo<|qb 1 38<|qc 574<|qn<|zO 14<|qe) 21 (rs 0 (qF 2<|qe) .ret) <| i1 22 (qr 1 0<|qK .eql 0<|qe) 24 (rs 25 (qR 1 8 29<|qc 328<|qv 2<|qe) .ret) <| rs 28 (qf 1 6<|qg 0<|ql 1<|qr 1 0<|qq .eql 2<|ya<|qR 1 6 2<|qc 408<|za 6<|qv 2<|qe) .ret
def F556 : F := mF 1 [.t 2] none c556
attribute [go_sem] c556 F556
def c557 : C := rs 0 (qB 2 0<|qG 4 z_30<|qe) <| i1 5 (qb 2 5<|q3 (.call (.k 573) .no none [.l 0])<|qe) 6 (r1 7 (qm 1<|qk .geq 0<|qm 1<|q1 (.mm true (.l 2) (ci 0))<|q1 (.mm false (.l 3) (ci 1099511627776))<|qf 2 3<|qs 2 1 5 1<|qf 2 2<|qs 2 1 7 4<|qe)) <| rs 14 (qb 2 5<|qt 4 5 0<|qe) .ret
def F557 : F := mF 2 [.cell 4 (some 5)] none c557
attribute [go_sem] c557 F557
def c558 : C := rs 0 (qB 1 0<|qz 2 0<|qe) <| sq (bk 0 (rs 4 (qb 1 38<|qc 556<|qn<|qv 3<|qe) <| cd 3 (rs 0 (qz 2 1<|qe) .ret) <| rs 8 (qr 1 37<|qn<|qv 7<|qe) <| cd 7 (rs 0 (qz 2 16<|qe) .ret) .skip)) <| rs 0 (qz 2 0<|qe) .ret
def F558 : F := mF 1 [.t 2] none c558
attribute [go_sem] c558 F558
def c560 : C := rs 6 (qB 3 0<|qB 5 2<|q3 (.mov (.c (.niface)))<|q3 (.mov (.c (.slice 36 [])))<|qe) <| rs 11 (qR 3 0 2<|qm 1<|qb 5 36<|qC 413 (ls [1,2,3])<|q2 10 (.mov (.l 4))<|qx 0<|qy 1<|qG 8 z_17<|qs 8 2 8 6<|qV 9 7<|qe) <| rs 18 (qb 8 2<|q1 (.build z_17 [(0,2,.l 0)])<|q1 (.mif 228 (.l 1))<|qm 9<|qw 6<|qw 7<|qe) .ret
def F560 : F := mF 3 [.t 6,.t 7] none c560
attribute [go_sem] c560 F560
def c561 : C := rs 0 (qB 2 0<|qG 4 z_26<|qz 5 0<|qe) <| rs 8 (qm 1<|q1 (.inv [(226,553),(228,554)] (.l 0) [])<|qv 6<|qe) <| i1 10 (qm 6<|qb 2 38<|qc 552<|q1 (.inv [(226,553),(228,554)] (.l 2) [])<|qQ .eql 0<|qe) 14 (rs 15 (qb 2 38<|qt 4 38 0<|qz 5 0<|qe) .ret) <| rs 0 (qz 7 0<|qe) <| sq (rs 16 (qf 2 1<|qg 0<|ql 2<|qh true<|qf 2 1<|qg 1<|ql 2<|qh true<|qq .add 3<|qK .gtr 16384<|qe) <| cd 25 (r1 27 (qR 2 1 5<|qm 6<|qd 575<|q2 26 (.mov (.l 3))<|qx 0<|qy 1<|qf 2 1<|qs 2 5 7 5<|qV 7 6<|qe)) <| r1 35 (qR 2 1 5<|qm 6<|qd 555<|q2 34 (.mov (.l 3))<|qx 0<|qy 1<|qf 2 1<|qs 2 5 7 5<|qV 7 6<|qe)) <| i1 42 (qm 7<|qK .neq 0<|qe) 43 (rs 44 (qm 7<|qk .neq 16<|qf 2 37<|qs 2 1 2 1<|qe) <| rs 47 (qb 2 38<|qm 7<|qt 4 38 0<|qw 5<|qe) .ret) <| rs 49 (qb 2 38<|qm 1<|qd 576<|qt 4 38 2<|qz 5 0<|qe) .ret
def F561 : F := mF 2 [.cell 4 (some 38),.t 5] none c561
attribute [go_sem] c561 F561
def c562 : C := rs 0 (qB 3 0<|qG 6 z_26<|qS 7 36<|qz 8 0<|qe) <| i1 9 (qm 2<|qK .neq 0<|qe) 10 (rs 11 (qb 3 38<|qm 2<|qt 6 38 0<|qS 7 36<|qV 8 1<|qe) .ret) <| rs 13 (qb 3 38<|qm 1<|qt 6 38 0<|qw 7<|qz 8 0<|qe) .ret
def F562 : F := mF 3 [.cell 6 (some 38),.t 7,.t 8] none c562
attribute [go_sem] c562 F562
def c563 : C := rs 0 (qB 2 0<|qG 4 z_30<|qe) <| i1 5 (qb 2 5<|qc 573<|qN<|qe) 7 (rs 8 (qb 2 5<|qt 4 5 0<|qe) .ret) <| rt 9 (qr 2 0<|qr 2 1<|qm 1<|q1 (.mm true (.l 4) (ci 0))<|qr 2 1<|qh true<|q1 (.mm false (.l 5) (.l 8))<|q1 (.sl true 0 (.l 3) none (some (.l 9)))<|qq .add 1<|q1 (.build z_30 [(0,1,.l 11)])<|qt 4 5 12<|qe) .ret
def F563 : F := mF 2 [.cell 4 (some 5)] none c563
attribute [go_sem] c563 F563
def c564 : C := rs 0 (qB 1 0<|qG 2 z_30<|qS 3 1<|qz 4 0<|qe) <| rs 10 (qb 1 5<|qc 577<|q2 9 (.mov (.l 1))<|qx 0<|qy 1<|qw 5<|qw 6<|qe) <| i1 14 (qm 6<|qK .neq 0<|qe) 15 (rs 16 (qb 1 5<|qm 6<|qt 2 5 0<|qS 3 1<|qV 4 1<|qe) .ret) <| rs 19 (qm 5<|qc 578<|q2 18 (.mov (.l 1))<|qx 0<|qy 1<|qw 7<|qw 8<|qe) <| i1 23 (qm 8<|qm 5<|qh true<|qQ .lss 0<|qe) 26 (rs 28 (qb 1 5<|qm 8<|qd 579<|q2 27 (.mov (.l 2))<|qx 0<|qy 1<|qt 1 5 4<|qw 6<|qe) <| rs 33 (qm 6<|qK .neq 0<|qe) <| cd 34 (rs 35 (qb 1 5<|qm 6<|qt 2 5 0<|qS 3 1<|qV 4 1<|qe) .ret) .skip) <| rs 37 (qb 1 5<|qm 7<|qt 2 5 0<|qw 3<|qz 4 0<|qe) .ret
def F564 : F := mF 1 [.cell 2 (some 5),.t 3,.t 4] none c564
attribute [go_sem] c564 F564
def c565 : C := rs 0 (qz 8 0<|qe) <| rs 0 (qz 9 0<|qe) <| i1 10 (qm 0<|q1 (.nilc (.l 0))<|qg 1<|ql 0<|yo<|qm 3<|qk .neq 0<|zO 4<|qe) 17 (rs 18 (qm 0<|q1 (.nilc (.l 0))<|qg 1<|q5 (.store (.v 0) 1 (.l 2) (cb true))<|qe) <| rs 21 (qm 9<|qv 8<|qe) .ret) <| rs 22 (qm 0<|qm 2<|q1 (.nilc (.l 0))<|qg 0<|qs 0 1 3 1<|qe) <| rs 26 (qm 1<|qv 8<|qe) .ret
def F565 : F := mF 4 [.t 8] none c565
attribute [go_sem] c565 F565
def l566_0 : C := .loop [] [] [] [] (rs 90 (q3 (.bin .lss (.g 89) (.g 88))<|qe) <| sq (cd 90 .skip <| .exit 0) <| sq (bk 1 (r2 91 (qr 7 6<|qm 4<|q1 (.rcall 492 [.l 2] 0 11 22600)<|qm 4<|q1 (.rcall 492 [.l 4] 0 11 22700)<|q1 (.build z_1 [(0,1,.l 3),(1,1,.l 5)])<|q1 (.mks 2 1 z_1 [(0,.l 6)])<|q1 (.app 99 2 (.l 1) (.l 7))<|qf 7 6<|qs 7 1 9 8<|qe))) <| r1 101 (q1 (.bin .add (.g 89) (ci 1))<|qv 89<|qe))
def l566_1 : C := .loop [] [] [8] [] (rs 111 (q3 (.bin .lss (.g 110) (.g 109))<|qe) <| sq (cd 111 .skip <| .exit 2) <| sq (bk 3 (rs 112 (qm 4<|q1 (.rcall 492 [.l 0] 0 11 23100)<|qm 4<|q1 (.rcall 492 [.l 2] 0 11 23200)<|q1 (.build z_1 [(0,1,.l 1),(1,1,.l 3)])<|q1 (.build z_0 [(0,2,.l 4)])<|qG 8 z_0<|qs 8 5 6 5<|qe) <| rs 118 (qm 4<|q1 (.rcall 465 [.l 0] 0 11 23300)<|qm 4<|q1 (.rcall 465 [.l 2] 0 11 23400)<|qm 4<|q1 (.rcall 465 [.l 4] 0 11 23500)<|qf 8 2<|qs 8 1 6 1<|qf 8 3<|qs 8 1 8 3<|qf 8 4<|qs 8 1 10 5<|qe) <| r1 127 (qr 5 34<|qb 8 5<|q1 (.mks 5 1 z_0 [(0,.l 2)])<|q1 (.app 131 5 (.l 1) (.l 3))<|qf 5 34<|qs 5 1 5 4<|qe))) <| r1 133 (q1 (.bin .add (.g 110) (ci 1))<|qv 110<|qe))
def l566_2 : C := .loop [] [] [] [] (rs 137 (q3 (.bin .lss (.g 136) (.g 135))<|qe) <| sq (cd 137 .skip <| .exit 4) <| sq (bk 5 (r2 138 (qr 5 35<|qm 4<|q1 (.rcall 465 [.l 2] 0 11 23700)<|q1 (.mks 1 1 [.int .i64 0] [(0,.l 3)])<|q1 (.app 143 1 (.l 1) (.l 4))<|qf 5 35<|qs 5 1 6 5<|qe))) <| r1 145 (q1 (.bin .add (.g 136) (ci 1))<|qv 136<|qe))
def c566 : C := rs 0 (qG 2 z_22<|qz 3 0<|qe) <| rs 9 (qm 0<|q1 (.build z_20 [(0,1,.l 0)])<|q1 (.box (.l 1))<|qv 4<|qe) <| rs 0 (qG 5 z_33<|qe) <| rs 0 (qG 6 z_25<|qe) <| rs 0 (qG 7 z_34<|qe) <| rs 12 (qm 4<|q1 (.rcall 465 [.l 0] 0 11 20000)<|qm 4<|q1 (.rcall 465 [.l 2] 0 11 20100)<|qm 4<|q1 (.rcall 465 [.l 4] 0 11 20200)<|qm 4<|q1 (.rcall 465 [.l 6] 0 11 20300)<|qm 4<|q1 (.rcall 465 [.l 8] 0 11 20400)<|qf 5 0<|qs 5 1 10 1<|qf 5 1<|qs 5 1 12 3<|qf 5 2<|qs 5 1 14 5<|qf 5 3<|qs 5 1 16 7<|qf 5 4<|qs 5 1 18 9<|qe) <| rs 27 (qm 4<|q1 (.rcall 465 [.l 0] 0 11 20500)<|qm 4<|q1 (.rcall 465 [.l 2] 0 11 20600)<|qm 4<|q1 (.rcall 465 [.l 4] 0 11 20700)<|qm 4<|q1 (.rcall 465 [.l 6] 0 11 20800)<|qf 5 5<|qs 5 1 8 1<|qf 5 6<|qs 5 1 10 3<|qf 5 7<|qs 5 1 12 5<|qf 5 8<|qs 5 1 14 7<|qe) <| rs 39 (qm 4<|q1 (.rcall 464 [.l 0] 0 11 20900)<|qm 4<|q1 (.rcall 492 [.l 2] 0 11 21000)<|qf 5 9<|qs 5 3 4 1<|qf 5 12<|qs 5 1 6 3<|qe) <| rs 45 (qm 4<|q1 (.rcall 465 [.l 0] 0 11 21100)<|qm 4<|q1 (.rcall 465 [.l 2] 0 11 21200)<|qm 4<|q1 (.rcall 465 [.l 4] 0 11 21300)<|qf 6 0<|qs 6 1 6 1<|qf 6 1<|qs 6 1 8 3<|qf 6 2<|qs 6 1 10 5<|qe) <| rs 54 (qm 4<|q1 (.rcall 492 [.l 0] 0 11 21400)<|qm 4<|q1 (.rcall 492 [.l 2] 0 11 21500)<|qm 4<|q1 (.rcall 493 [.l 4] 0 11 21600)<|qm 4<|q1 (.rcall 492 [.l 6] 0 11 21700)<|qf 6 3<|qs 6 1 8 1<|qf 6 4<|qs 6 1 10 3<|qf 6 5<|qs 6 1 12 5<|qf 6 6<|qs 6 1 14 7<|qe) <| rs 66 (qm 4<|q1 (.rcall 464 [.l 0] 0 11 21800)<|qm 4<|q1 (.rcall 492 [.l 2] 0 11 21900)<|qm 4<|q1 (.rcall 465 [.l 4] 0 11 22000)<|qf 6 7<|qs 6 3 6 1<|qf 6 10<|qs 6 1 8 3<|qf 6 11<|qs 6 1 10 5<|qe) <| rs 75 (qm 4<|q1 (.rcall 465 [.l 0] 0 11 22100)<|qm 4<|q1 (.rcall 464 [.l 2] 0 11 22200)<|qm 4<|q1 (.rcall 493 [.l 4] 0 11 22300)<|qm 4<|q1 (.rcall 492 [.l 6] 0 11 22400)<|qf 7 0<|qs 7 1 8 1<|qf 7 1<|qs 7 3 10 3<|qf 7 4<|qs 7 1 12 5<|qf 7 5<|qs 7 1 14 7<|qe) <| sq (rs 87 (qm 4<|q3 (.rcall 466 [.l 0] 0 11 22500)<|q3 (.mov (ci 0))<|qe) <| bk 0 l566_0) <| rs 102 (qm 4<|q1 (.rcall 492 [.l 0] 0 11 22800)<|qm 4<|q1 (.rcall 493 [.l 2] 0 11 22900)<|qf 7 7<|qs 7 1 4 1<|qf 7 8<|qs 7 1 6 3<|qe) <| sq (rs 108 (qm 4<|q3 (.rcall 466 [.l 0] 0 11 23000)<|q3 (.mov (ci 0))<|qe) <| bk 2 l566_1) <| sq (rs 134 (qm 4<|q3 (.rcall 466 [.l 0] 0 11 23600)<|q3 (.mov (ci 0))<|qe) <| bk 4 l566_2) <| rt 146 (qb 6 12<|qb 7 9<|qf 5 13<|qs 5 12 2 0<|qf 5 25<|qs 5 9 4 1<|qe) <| i1 150 (qm 4<|q1 (.nilc (.l 0))<|qg 1<|ql 11<|yo<|qm 4<|q1 (.nilc (.l 5))<|qg 0<|ql 11<|q1 (.bin .neq (.l 8) (.c (.str [])))<|zo 4<|yo<|qb 5 36<|q1 (.call (.k 341) .borrow none [.l 12])<|qn<|zO 11<|qe) 165 (rs 166 (q1 (.build z_22 [])<|qt 2 36 0<|qz 3 3<|qe) .ret) <| rs 167 (qb 5 36<|qt 2 36 0<|qz 3 0<|qe) .ret
def F566 : F := mF 1 [.cell 2 (some 36),.t 3] none c566
attribute [go_sem] c566 F566
def c567 : C := rs 0 (qE 8<|qe) <| rs 0 (qE 9<|qe) <| i1 10 (qm 0<|q1 (.nilc (.l 0))<|qg 1<|ql 0<|yo<|qm 3<|qk .neq 0<|zO 4<|qe) 17 (rs 18 (qm 0<|q1 (.nilc (.l 0))<|qg 1<|q5 (.store (.v 0) 1 (.l 2) (cb true))<|qe) <| rs 21 (qm 9<|qv 8<|qe) .ret) <| rs 22 (qm 0<|qm 2<|q1 (.nilc (.l 0))<|qg 0<|qs 0 1 3 1<|qe) <| rs 26 (qm 1<|qv 8<|qe) .ret
def F567 : F := mF 4 [.t 8] none c567
attribute [go_sem] c567 F567
def c568 : C := rs 0 (qF 8<|qe) <| rs 0 (qF 9<|qe) <| i1 10 (qm 0<|q1 (.nilc (.l 0))<|qg 1<|ql 0<|yo<|qm 3<|qk .neq 0<|zO 4<|qe) 17 (rs 18 (qm 0<|q1 (.nilc (.l 0))<|qg 1<|q5 (.store (.v 0) 1 (.l 2) (cb true))<|qe) <| rs 21 (qm 9<|qv 8<|qe) .ret) <| rs 22 (qm 0<|qm 2<|q1 (.nilc (.l 0))<|qg 0<|qs 0 1 3 1<|qe) <| rs 26 (qm 1<|qv 8<|qe) .ret
def F568 : F := mF 4 [.t 8] none c568
attribute [go_sem] c568 F568
def c569 : C := rs 0 (qB 5 1<|qG 8 z_19<|qe) <| rs 0 (qG 9 z_19<|qe) <| i1 10 (qm 0<|q1 (.nilc (.l 0))<|qg 1<|ql 0<|yo<|qm 3<|qk .neq 0<|zO 4<|qe) 17 (rs 18 (qm 0<|q1 (.nilc (.l 0))<|qg 1<|q5 (.store (.v 0) 1 (.l 2) (cb true))<|qe) <| rs 21 (qb 9 3<|qt 8 3 0<|qe) .ret) <| rs 22 (qm 0<|qm 2<|q1 (.nilc (.l 0))<|qg 0<|qs 0 1 3 1<|qe) <| rs 26 (qb 5 3<|qt 8 3 0<|qe) .ret
def F569 : F := mF 4 [.cell 8 (some 3)] none c569
attribute [go_sem] c569 F569
def c570 : C := rs 0 (qE 2<|qz 3 0<|qe) <| i1 4 (qm 0<|qh true<|qK .gtr 1048576<|qe) 6 (rs 0 (qE 2<|qz 3 5<|qe) .ret) <| rs 7 (qm 0<|qc 484<|qc 580<|qv 2<|qz 3 0<|qe) .ret
def F570 : F := mF 1 [.t 2,.t 3] none c570
attribute [go_sem] c570 F570
def c571 : C := rs 0 (qB 2 0<|qG 4 z_30<|qz 5 0<|qe) <| sq (rs 8 (qb 2 5<|qc 581<|qv 6<|qe) <| rs 10 (qm 6<|qK .neq 0<|qe) <| cd 11 (rs 12 (qb 2 5<|qm 6<|qt 4 5 0<|qw 5<|qe) .ret) .skip) <| i1 14 (qm 1<|qh true<|qr 2 0<|qh true<|q1 (.bin .sub (ci 1048576) (.l 4))<|qr 2 1<|qh true<|qq .sub 5<|qQ .gtr 1<|qe) 24 (rs 25 (qb 2 5<|qt 4 5 0<|qz 5 6<|qe) .ret) <| rs 27 (qb 2 5<|qc 582<|q2 26 (.mov (.l 1))<|qx 0<|qy 1<|qt 2 5 3<|qw 7<|qe) <| i1 31 (qm 7<|qN<|qe) 32 (rs 33 (qb 2 5<|qt 4 5 0<|qz 5 16<|qe) .ret) <| rs 34 (qr 2 1<|qm 1<|qq .add 1<|qf 2 1<|qs 2 1 4 3<|qe) <| rs 39 (qb 2 5<|qt 4 5 0<|qz 5 0<|qe) .ret
def F571 : F := mF 2 [.cell 4 (some 5),.t 5] none c571
attribute [go_sem] c571 F571
def c572 : C := rs 0 (qB 1 0<|qG 2 z_30<|qz 3 0<|qe) <| sq (rs 6 (qb 1 5<|qc 581<|qv 4<|qe) <| rs 8 (qm 4<|qK .neq 0<|qe) <| cd 9 (rs 10 (qb 1 5<|qm 4<|qt 2 5 0<|qw 3<|qe) .ret) .skip) <| rs 13 (qb 1 5<|qc 582<|q2 12 (.mov (.l 1))<|qx 0<|qy 1<|qt 1 5 3<|qw 5<|qe) <| i1 17 (qm 5<|qN<|qe) 18 (rs 19 (qb 1 5<|qt 2 5 0<|qz 3 16<|qe) .ret) <| rs 20 (qr 1 0<|qr 1 1<|qq .add 1<|qf 1 0<|qs 1 1 5 4<|qf 1 1<|q5 (.store (.v 1) 1 (.l 7) (.c (.str [])))<|qe) <| rs 27 (qb 1 5<|qt 2 5 0<|qz 3 0<|qe) .ret
def F572 : F := mF 1 [.cell 2 (some 5),.t 3] none c572
attribute [go_sem] c572 F572
def c573 : C := rs 0 (qB 1 0<|qF 2<|qe) <| rs 3 (qr 1 0<|qh true<|qr 1 1<|qh true<|qq .add 2<|qk .leq 1048576<|ya<|qr 1 2<|qk .geq 0<|za 8<|ya<|qr 1 2<|qk .leq 1099511627776<|za 13<|ya<|qr 1 3<|yo<|qr 1 2<|qk .eql 0<|y1 18<|qo 21<|za 18<|qv 2<|qe) .ret
def F573 : F := mF 1 [.t 2] none c573
attribute [go_sem] c573 F573
def c574 : C := rs 0 (qB 1 0<|qF 2<|qe) <| i1 5 (qr 1 0<|qK .eql 0<|qe) 7 (rs 8 (qf 1 6<|qg 0<|ql 1<|qk .eql 0<|ya<|qf 1 6<|qg 1<|ql 1<|qh false<|qk .eql 0<|za 4<|qv 2<|qe) .ret) <| rs 19 (q1 (.build z_13 [])<|qG 3 z_13<|qs 3 29 1 0<|qe) <| rs 20 (qR 1 8 29<|qG 4 z_13<|qs 4 29 2 1<|qe) <| rs 22 (qr 4 0<|qh false<|qr 4 1<|qh false<|qq .add 2<|qr 4 3<|qh false<|qq .add 6<|qr 4 4<|qh false<|qq .add 10<|qr 4 28<|qh false<|qq .add 14<|qk .eql 0<|ya<|qr 4 2<|qk .eql 0<|za 20<|ya<|qR 4 5 3<|qR 3 5 3<|q1 (.eqa false [.i,.i,.i] (.l 27) (.l 29))<|za 25<|ya<|qR 4 8 20<|qc 583<|za 32<|qv 2<|qe) .ret
def F574 : F := mF 1 [.t 2] none c574
attribute [go_sem] c574 F574
def c577 : C := rs 0 (qB 1 0<|qE 2<|qz 3 0<|qe) <| sq (rs 5 (qb 1 5<|qc 581<|qv 4<|qe) <| rs 7 (qm 4<|qK .neq 0<|qe) <| cd 8 (rs 9 (qm 4<|qE 2<|qw 3<|qe) .ret) .skip) <| rs 10 (qr 1 0<|qr 1 1<|qq .add 1<|qv 2<|qz 3 0<|qe) .ret
def F577 : F := mF 1 [.t 2,.t 3] none c577
attribute [go_sem] c577 F577
def l578_0 : C := .loop [] [] [] [] (bk 1 (rs 11 (qm 5<|qc 585<|q2 10 (.mov (.l 1))<|qx 0<|qy 1<|qY 2 2<|qV 6 3<|qV 7 4<|qV 8 5<|qe) <| i1 16 (qm 8<|qK .neq 0<|qe) 17 (rs 18 (qm 4<|qm 0<|qh true<|qm 5<|qh true<|qq .sub 2<|qV 2 0<|qw 3<|qe) .ret) <| r1 24 (qm 4<|qm 6<|q1 (.mks 1 1 [.str []] [(0,.l 1)])<|q1 (.app 4 1 (.l 0) (.l 2))<|qm 7<|qw 4<|qw 5<|qe)))
def c578 : C := rs 0 (qS 2 1<|qz 3 0<|qe) <| rs 4 (q3 (.mko 1)<|qe) <| rs 9 (qm 0<|qv 5<|qe) <| bk 0 l578_0
def F578 : F := mF 1 [.t 2,.t 3] none c578
attribute [go_sem] c578 F578
def c580 : C := rs 0 (qE 2<|qe) <| rs 4 (qm 0<|qc 586<|qv 3<|qe) <| rs 6 (qm 0<|qm 3<|q1 (.conv (.int .u8) (.l 1))<|qm 3<|q1 (.sh .shr (.l 3) (.c (.int .u64 8)))<|q1 (.conv (.int .u8) (.l 4))<|qm 3<|q1 (.sh .shr (.l 6) (.c (.int .u64 16)))<|q1 (.conv (.int .u8) (.l 7))<|qm 3<|q1 (.sh .shr (.l 9) (.c (.int .u64 24)))<|q1 (.conv (.int .u8) (.l 10))<|q1 (.mks 1 4 [.int .u8 0] [(0,.l 2),(1,.l 5),(2,.l 8),(3,.l 11)])<|q1 (.b2s (.l 12))<|qq .add 0<|qv 2<|qe) .ret
def F580 : F := mF 1 [.t 2] none c580
attribute [go_sem] c580 F580
def c581 : C := rs 0 (qB 1 0<|qz 2 0<|qe) <| sq (bk 0 (rs 4 (qb 1 5<|qc 573<|qn<|qv 3<|qe) <| cd 3 (rs 0 (qz 2 1<|qe) .ret) <| rs 8 (qr 1 4<|qv 7<|qe) <| cd 7 (rs 0 (qz 2 16<|qe) .ret) .skip)) <| rs 0 (qz 2 0<|qe) .ret
def F581 : F := mF 1 [.t 2] none c581
attribute [go_sem] c581 F581
def c582 : C := rs 0 (qB 1 0<|qG 2 z_30<|qF 3<|qe) <| sq (bk 0 (rs 5 (qr 1 3<|ya<|qr 1 2<|qk .eql 0<|za 2<|qv 4<|qe) <| cd 4 (rs 12 (qf 1 4<|q5 (.store (.v 1) 1 (.l 0) (cb true))<|qe) <| rs 13 (qb 1 5<|qt 2 5 0<|qF 3<|qe) .ret) <| rs 15 (qr 1 3<|qv 14<|qe) <| cd 14 (r1 17 (qr 1 2<|qk .sub 1<|qf 1 2<|qs 1 1 3 2<|qe)) .skip)) <| rs 21 (qb 1 5<|qt 2 5 0<|qT 3<|qe) .ret
def F582 : F := mF 1 [.cell 2 (some 5),.t 3] none c582
attribute [go_sem] c582 F582
def c583 : C := rs 0 (qB 1 0<|qF 2<|qe) <| rs 3 (qr 1 0<|qk .eql 0<|ya<|qr 1 1<|qk .eql 0<|za 3<|ya<|qr 1 2<|qk .eql 0<|za 8<|ya<|qr 1 3<|qk .eql 0<|za 13<|ya<|qr 1 4<|qk .eql 0<|za 18<|ya<|qr 1 5<|qk .eql 0<|za 23<|ya<|qr 1 6<|qk .eql 0<|za 28<|ya<|qr 1 7<|qk .eql 0<|za 33<|ya<|qr 1 8<|q1 (.bin .eql (.l 40) (.c (.str [])))<|za 38<|ya<|qr 1 9<|qh false<|qr 1 15<|qh false<|qq .add 46<|qr 1 19<|qh false<|qq .add 50<|qk .eql 0<|za 43<|ya<|qr 1 10<|qk .eql 0<|za 57<|ya<|qr 1 11<|qk .eql 0<|za 62<|ya<|qr 1 12<|qk .eql 0<|za 67<|ya<|qR 1 13 2<|q1 (.build z_1 [])<|q1 (.eqa false [.s,.s] (.l 74) (.l 75))<|za 72<|ya<|qR 1 16 3<|q1 (.build z_19 [])<|q1 (.eqa false [.i,.i,.i] (.l 80) (.l 81))<|za 78<|qv 2<|qe) .ret
def F583 : F := mF 1 [.t 2] none c583
attribute [go_sem] c583 F583
def c585 : C := rs 0 (qE 2<|qE 3<|qz 4 0<|qe) <| rs 12 (qm 0<|qc 491<|q2 11 (.mov (.l 1))<|qx 0<|qy 1<|qY 2 2<|qV 5 3<|qV 6 4<|qV 7 5<|qe) <| sq (bk 0 (rs 18 (qm 7<|qk .neq 0<|qv 17<|qe) <| cd 17 (rs 20 (qm 7<|qE 2<|qE 3<|qV 4 0<|qe) .ret) <| rs 22 (qm 5<|qk .gtr 1048576<|qv 21<|qe) <| cd 21 (rs 0 (qE 2<|qE 3<|qz 4 3<|qe) .ret) <| rs 25 (qm 6<|qh true<|qm 5<|qk .add 4<|qq .lss 1<|qv 24<|qe) <| cd 24 (rs 0 (qE 2<|qE 3<|qz 4 2<|qe) .ret) .skip)) <| rs 30 (qm 0<|qh true<|qm 6<|qh true<|qq .sub 1<|qm 5<|qq .add 4<|qk .add 4<|qv 8<|qe) <| sq (rs 39 (qm 0<|qm 8<|q1 (.sl true 0 (.l 0) none (some (.l 1)))<|qc 587<|q2 38 (.mov (.l 3))<|qx 0<|qy 1<|qD 9<|q1 (.mov (.l 5))<|q3 (.mov (.l 6))<|qe) <| rs 45 (qm 10<|qK .neq 0<|qe) <| cd 46 (rs 47 (qm 10<|qE 2<|qE 3<|qV 4 0<|qe) .ret) .skip) <| rt 48 (qm 6<|qm 5<|q1 (.sl true 0 (.l 0) none (some (.l 1)))<|qm 0<|qm 8<|q1 (.sl true 0 (.l 3) (some (.l 4)) none)<|qV 2 2<|qw 3<|qz 4 0<|qe) .ret
def F585 : F := mF 1 [.t 2,.t 3,.t 4] none c585
attribute [go_sem] c585 F585
def l586_1 : C := .loop [] [] [] [] (rs 17 (q3 (.bin .lss (.g 16) (ci 8))<|qe) <| sq (cd 17 .skip <| .exit 2) <| sq (bk 3 (r1 18 (qm 3<|q1 (.sh .shr (.l 0) (.c (.int .u64 1)))<|qm 3<|q1 (.bin .and (.l 2) (.c (.int .u32 1)))<|q1 (.un .neg (.l 3))<|q1 (.bin .and (.c (.int .u32 2197175160)) (.l 4))<|qq .xor 1<|qv 3<|qe))) <| r1 25 (q1 (.bin .add (.g 16) (ci 1))<|qv 16<|qe))
def l586_0 : C := .loop [] [] [] [] (rs 8 (q3 (.bin .lss (.g 7) (.g 6))<|qe) <| sq (cd 8 .skip <| .exit 0) <| sq (bk 1 (rs 9 (qm 7<|qv 4<|qe) <| rs 10 (qm 3<|qm 0<|qm 4<|q1 (.idx (.l 1) (.l 2))<|q1 (.conv (.int .u32) (.l 3))<|qq .xor 0<|qv 3<|qe) <| rs 0 (qz 16 0<|qe) <| bk 2 l586_1)) <| r1 26 (q1 (.bin .add (.g 7) (ci 1))<|qv 7<|qe))
def c586 : C := rs 2 (q3 (.mov (.c (.int .u32 0)))<|qe) <| rs 3 (q3 (.mov (.c (.int .u32 4294967295)))<|qe) <| sq (rs 5 (qm 0<|qH true<|q3 (.mov (ci 0))<|qe) <| bk 0 l586_0) <| rs 27 (qm 3<|q1 (.un .xor (.l 0))<|qv 2<|qe) .ret
def F586 : F := mF 1 [.t 2] none c586
attribute [go_sem] c586 F586
def c587 : C := rs 0 (qE 2<|qz 3 0<|qe) <| rs 5 (qm 0<|qh true<|qk .sub 4<|qv 4<|qe) <| sq (bk 0 (rs 9 (qm 4<|qk .lss 0<|qv 8<|qe) <| cd 8 (rs 0 (qE 2<|qz 3 2<|qe) .ret) <| rs 12 (qm 0<|qm 4<|q1 (.sl true 0 (.l 0) none (some (.l 1)))<|qc 580<|qm 0<|qq .neq 3<|qv 11<|qe) <| cd 11 (rs 0 (qE 2<|qz 3 4<|qe) .ret) .skip)) <| rs 18 (qm 0<|qm 4<|q1 (.sl true 0 (.l 0) none (some (.l 1)))<|qv 2<|qz 3 0<|qe) .ret
def F587 : F := mF 1 [.t 2,.t 3] none c587
attribute [go_sem] c587 F587
end Sg
namespace Sg
open _root_.Go _root_.Go.RowKit _root_.Go.Proofs _root_.Go.Shelf
def renU:Shelf.Ren:=⟨fun|197=>235|260=>244|n=>n,fun|0=>0|3=>3|4=>4|5=>5|9=>9|21=>21|46=>241|105=>297|119=>304|138=>306|139=>307|n=>n,fun|3=>0|4=>1|n=>n⟩
set_option maxRecDepth 1000000 in
theorem lays197:Lays.n197 Tryz.prog renU where
 mixed:=by kernel_rfl
 f197:=Tryz.func235.trans (congrArg some (by kernel_rfl))
 f260:=Tryz.func244.trans (congrArg some (by kernel_rfl))
 t0:=Tryz.underlying0
 a0:=Tryz.isAgg0
 z0:=Tryz.sizeOf0
 v0:=Tryz.zeroValue0
 t3:=Tryz.underlying3
 a3:=Tryz.isAgg3
 z3:=Tryz.sizeOf3
 v3:=Tryz.zeroValue3
 t4:=Tryz.underlying4
 a4:=Tryz.isAgg4
 z4:=Tryz.sizeOf4
 v4:=Tryz.zeroValue4
 t5:=Tryz.underlying5
 a5:=Tryz.isAgg5
 z5:=Tryz.sizeOf5
 v5:=Tryz.zeroValue5
 t9:=Tryz.underlying9
 a9:=Tryz.isAgg9
 z9:=Tryz.sizeOf9
 v9:=Tryz.zeroValue9
 t21:=Tryz.underlying21
 a21:=Tryz.isAgg21
 z21:=Tryz.sizeOf21
 v21:=Tryz.zeroValue21
 t46:=Tryz.underlying241
 a46:=Tryz.isAgg241
 z46:=Tryz.sizeOf241
 v46:=Tryz.zeroValue241
 t105:=Tryz.underlying297
 a105:=Tryz.isAgg297
 z105:=Tryz.sizeOf297
 v105:=Tryz.zeroValue297
 t119:=Tryz.underlying304
 a119:=Tryz.isAgg304
 z119:=Tryz.sizeOf304
 t138:=Tryz.underlying306
 a138:=Tryz.isAgg306
 z138:=Tryz.sizeOf306
 v138:=Tryz.zeroValue306
 t139:=Tryz.underlying307
 a139:=Tryz.isAgg307
 z139:=Tryz.sizeOf307
 v139:=Tryz.zeroValue307
 g3:=by kernel_rfl
 g4:=by kernel_rfl
theorem dec_walk (s:ByteArray) (w:World) (hT:Lib.Utf8Tabs 0 1 w) :
  Calls Tryz.prog 235 #[.string s] w fun e w'=>e=.returned (.tuple #[.int .i32 (Lib.decodeGo s).1,.int .i64 (Lib.decodeGo s).2])∧Below w.heap.size w w':=
 Any.utf8_DecodeRuneInString lays197 s w hT
theorem tabs_st (w w':World) (h:Lib.Utf8Tabs 0 1 w) (hb:∀b,b<2→w'.heap[b]?=w.heap[b]?):Lib.Utf8Tabs 0 1 w':=by
 have e:∀b o,b<2→w'.cell? ⟨b,o,none⟩=w.cell? ⟨b,o,none⟩:=fun b o hlt=>by
  simp only[World.cell?,hb b hlt]
 exact⟨fun c hc=>by rw[e _ _ (by decide)];exact h.1 c hc,fun i hi=>by rw[e _ _ (by decide),e _ _ (by decide)];exact h.2 i hi⟩
def cxU (l:List (Nat×Nat)):Cx where
 fm:=fun n=>(look l n).getD 0
 tm:=fun n=>n
 gn:=2
 G:=Lib.Utf8Tabs 0 1
 Gst:=tabs_st
set_option maxRecDepth 1000000 in
theorem key_walk (s:ByteArray) (w:World) (hgn:2≤w.heap.size) (hT:Lib.Utf8Tabs 0 1 w)
  (hplain:∀(r n:Int) (w:World),2≤w.heap.size→Lib.Utf8Tabs 0 1 w→Calls Tryz.prog 236 #[.int .i32 r,.int .i64 n] w fun e w'=>e=.returned (.bool (plainR r n))∧Below w.heap.size w w') :
  Calls Tryz.prog 218 #[.string s] w fun e w'=>e=.returned (.bool (keyR s.data.toList))∧Below w.heap.size w w':=by
 have t0:=Tryz.underlying0;have t3:=Tryz.underlying3;have t4:=Tryz.underlying4;have t9:=Tryz.underlying9;have t21:=Tryz.underlying21
 have hu0:=run_underlying t0;have hu3:=run_underlying t3;have hu4:=run_underlying t4;have hu9:=run_underlying t9;have hu21:=run_underlying t21
 have mixed:Tryz.prog.follows .mixedOrders=true:=by kernel_rfl
 have a0:=Tryz.isAgg0;have z0:=Tryz.sizeOf0;have v0:=Tryz.zeroValue0
 have a3:=Tryz.isAgg3;have z3:=Tryz.sizeOf3;have v3:=Tryz.zeroValue3
 have a4:=Tryz.isAgg4;have z4:=Tryz.sizeOf4;have v4:=Tryz.zeroValue4
 have a9:=Tryz.isAgg9;have z9:=Tryz.sizeOf9;have v9:=Tryz.zeroValue9
 have a21:=Tryz.isAgg21;have z21:=Tryz.sizeOf21;have v21:=Tryz.zeroValue21
 go_enter Tryz.func218,Tryz.ntmps218
 go_wp2
 go_loopw [3] (fun _ wr=>∃(pos fuel:Nat),wr.heap[w.heap.size]?=some (.stringIter s pos)∧Below w.heap.size w wr∧keyAll fuel (s.data.toList.drop pos)=keyAll s.size s.data.toList∧s.size≤pos+fuel) (fun _ wr=>s.size-wr.iterPos w.heap.size)
 case atStart=>
  refine⟨0,s.size,?_,(Below.refl _ w).alloc (Nat.le_refl _) _,by simp,by omega⟩
  have:=World.iter_heap w s 0
  simpa using this
 case round=>
  obtain⟨pos,fuel,hit,hbw,hacc,hfu⟩:=hrel
  have hsz:w.heap.size<wr.heap.size:=(Array.getElem?_eq_some_iff.1 hit).1
  have hbT:∀W:World,Below w.heap.size w W→Lib.Utf8Tabs 0 1 W:=fun W h=>tabs_st w W hT fun b hb=>h.block b (by omega)
  by_cases hp:pos<s.size
  ·have hnx:∀ty,(Instr.next (.pointer (some ⟨w.heap.size,0,none⟩)) true ty).run Tryz.prog wr=_:=fun ty=>Lib.run_next_any_at wr w.heap.size s pos ty hit hp
   have hbw2:=Lib.below_iterAt hbw (k:=w.heap.size) (by omega) s (pos+(Utf8.decode s pos).2)
   have hit2:=Lib.iterAt_heap wr w.heap.size s pos (pos+(Utf8.decode s pos).2) hit
   have hsz2:w.heap.size+1≤(wr.iterAt w.heap.size s (pos+(Utf8.decode s pos).2)).heap.size:=by rw[Lib.iterAt_size];omega
   have hde:∀n,n=s.size→Lib.decodeGo (s.extract pos n)=Utf8.decode s pos:=fun n hn=>decode_extract s pos n hn hp
   have hw1:=width_pos s pos
   obtain⟨f,rfl⟩:∃f,fuel=f+1:=⟨fuel-1,by omega⟩
   have hnil:s.data.toList.drop pos≠[]:=fun e=>by
    exact drop_ne s pos hp e
   have hdN:=decode_drop s pos
   simp only[keyAll,hnil,if_false,←hdN] at hacc
   generalize Utf8.decode s pos=D at *
   clear hdN hnil
   obtain⟨D1,D2⟩:=D
   simp only at hw1 hacc hbw2 hit2 hsz2 hde hnx
   have hsl:=size_list s
   have hfin:∀W:World,plainR D1 D2=false→keyR s.data.toList=false:=fun W hpl=>by
    rw[hpl,Bool.false_and] at hacc;rw[keyR,hsl,←hacc,Bool.false_and]
   clear hsl
   go_wp2_with (go_at_call 235;refine (dec_walk _ _ (hbT _ hbw2)).mono ?_;rintro e W1 ⟨rfl,b1⟩)
   have hb3:=hbw2.trans (b1.mono (by omega))
   have hs3:W1.heap.size≥w.heap.size+1:=Nat.le_trans hsz2 b1.size
   have hit3:W1.heap[w.heap.size]?=some (.stringIter s (pos+D2)):=(b1.block _ (by omega)).trans hit2
   have hpl:=hplain D1 D2 W1 (by omega) (hbT _ hb3)
   cases hP:plainR D1 D2 with
   |false=>
    rw[hP] at hpl
    have hke:=hfin w hP
    clear hacc hfin
    go_wp2_with (go_at_call 236;refine hpl.mono ?_;rintro e W2 ⟨rfl,b2⟩)
    have hb4:=hb3.trans (b2.mono (by omega))
    go_wp2
    go_ret
    rw[hke]
    exact⟨rfl,hb4⟩
   |true=>
    rw[hP,Bool.true_and,List.drop_drop] at hacc
    rw[hP] at hpl
    clear hfin
    obtain⟨kk,hkk⟩:∃kk,kk=keyAll s.size s.data.toList:=⟨_,rfl⟩
    go_wp2_with (go_at_call 236;refine hpl.mono ?_;rintro e W2 ⟨rfl,b2⟩)
    have hb4:=hb3.trans (b2.mono (by omega))
    have hit4:W2.heap[w.heap.size]?=some (.stringIter s (pos+D2)):=(b2.block _ (by omega)).trans hit3
    go_wp2
    go_roundw
    case rel=>exact⟨pos+D2,f,hit4,hb4,hacc,by omega⟩
    case measure=>
     simp only[World.iterPos,hit4,hit]
     omega
  ·have hnx:∀ty,(Instr.next (.pointer (some ⟨w.heap.size,0,none⟩)) true ty).run Tryz.prog wr=_:=fun ty=>Lib.run_next_end_at wr w.heap.size s pos ty hit hp
   have hall:keyAll s.size s.data.toList=true:=by
    rw[←hacc,List.drop_eq_nil_of_le (by rw[size_list];omega)];cases fuel<;>simp[keyAll]
   have hkey:keyR s.data.toList=(decide ((1:Int)≤s.size)&&decide ((s.size:Int)≤16)):=by
    rw[keyR,size_list,hall,Bool.true_and]
    congr 1<;>exact decide_eq_decide.2 (by omega)
   clear hacc hall
   by_cases h1:(1:Int)≤s.size
   ·rw[decide_eq_true h1,Bool.true_and] at hkey
    go_wp2
    go_ret
    exact⟨by first|rfl|(rw[hkey];rfl),hbw⟩
   ·rw[decide_eq_false h1,Bool.false_and] at hkey
    go_wp2
    go_ret
    exact⟨by first|rfl|(rw[hkey];rfl),hbw⟩
end Sg
namespace Sg
open Go.Proofs
open _root_.Go
def noQ:List V→Option V:=fun _=>none
def nodeFm:List (Nat×Nat):=[(519,5),(510,8),(512,11),(520,21),(517,18),(521,22),(509,6),(399,13),(515,14),(332,20),(522,24),(523,26),(524,25),(525,27),(530,37),(531,38),(532,39),(408,28),(545,68),(546,69),(547,70),(548,71),(405,10),(513,12),(539,57),(540,58),(541,59),(542,60),(543,61),(328,47),(549,72),(550,73),(551,74),(329,17),(518,19),(45,44),(360,45),(353,64),(153,65),(116,66),(354,67),(327,75),(395,76),(552,78),(553,262),(554,338),(555,77),(556,82),(557,83),(558,79),(559,263),(560,339),(561,80),(562,81),(563,85),(564,84),(491,106),(565,107),(566,108),(368,86),(39,87),(430,88),(41,89),(431,91),(432,90),(470,133),(494,134),(435,135),(434,136),(471,137),(472,138),(414,36),(536,43),(425,33),(37,34),(426,35),(533,40),(534,41),(535,42),(506,126),(567,127),(507,128),(568,129),(490,130),(569,131),(141,117),(126,118),(28,119),(346,120),(347,121),(348,122),(495,139),(469,140),(147,51),(114,52),(349,53),(24,54),(350,55),(351,56),(504,62),(544,63),(70,115),(372,116),(154,141),(345,142),(397,144),(401,143),(43,145),(516,16),(511,9),(570,146),(571,147),(572,148),(573,151),(574,152),(340,265),(413,341),(575,149),(576,150),(577,153),(578,154),(579,155),(505,170),(465,171),(464,172),(492,173),(493,174),(466,175),(341,92),(63,156),(64,157),(65,158),(66,160),(67,159),(68,161),(428,162),(40,163),(468,164),(487,109),(445,105),(460,111),(459,112),(488,113),(489,114),(411,99),(60,100),(61,101),(62,102),(38,103),(42,104),(503,110),(162,178),(163,179),(164,181),(165,180),(166,182),(32,183),(369,184),(173,124),(174,125),(486,132),(101,177),(249,188),(421,96),(422,95),(423,189),(526,29),(528,31),(527,30),(485,48),(537,49),(538,50),(529,32),(484,94),(580,191),(581,192),(582,193),(583,195),(357,267),(121,268),(361,269),(362,270),(363,271),(364,272),(365,273),(355,274),(437,342),(438,343),(427,344),(439,345),(440,346),(441,347),(15,229),(261,349),(442,348),(443,350),(444,351),(584,194),(585,196),(366,165),(367,166),(75,197),(76,198),(467,199),(502,176),(436,167),(246,168),(424,169),(185,204),(186,205),(167,186),(184,187),(244,208),(301,209),(284,210),(455,123),(456,93),(457,97),(458,98),(586,211),(133,275),(21,279),(109,280),(375,282),(376,283),(377,284),(379,286),(159,288),(381,289),(370,290),(371,291),(57,352),(429,353),(473,354),(54,355),(462,357),(463,356),(474,358),(240,359),(247,360),(475,361),(26,242),(27,241),(47,362),(476,363),(477,364),(262,365),(256,366),(258,367),(265,368),(478,369),(253,370),(266,371),(267,372),(270,373),(271,374),(273,375),(275,376),(587,212),(293,200),(245,201),(300,202),(461,203),(192,219),(168,206),(187,207),(203,223),(81,224),(298,226),(299,225),(316,228),(313,230),(483,185),(138,293),(139,292),(128,294),(129,295),(130,296),(113,297),(131,298),(383,300),(384,299),(145,303),(120,304),(177,305),(156,306),(157,307),(148,308),(74,377),(71,378),(496,379),(73,382),(72,383),(499,384),(285,385),(286,386),(287,387),(171,227),(288,388),(289,389),(290,390),(291,391),(500,392),(31,246),(501,393),(217,395),(304,396),(303,397),(302,398),(308,399),(178,316),(309,400),(211,401),(311,402),(213,403),(91,404),(292,213),(204,214),(80,215),(142,216),(6,217),(191,236),(188,220),(189,221),(195,222),(7,237),(97,238),(98,239),(315,240),(137,310),(172,313),(175,315),(314,407),(82,408),(84,409),(200,410),(88,411),(312,412),(206,413),(17,414),(220,417),(221,418),(4,231),(95,232),(96,233),(169,234),(22,245),(193,323),(194,326),(319,420),(320,421),(100,422),(3,423),(10,427),(12,428),(25,429),(225,433),(226,434),(5,243),(105,438),(106,437),(29,443),(30,444),(69,190),(179,266),(134,277),(136,276),(373,278),(374,281),(378,285),(380,287),(170,218),(385,301),(386,302),(382,309),(497,380),(498,381),(307,394),(190,235),(135,314),(180,317),(181,318),(317,415),(318,416),(222,424),(102,425),(103,426),(23,430),(227,435)]
def nodeTab:List (Nat×Fn):=[(519,.code F519),(510,.code F510),(512,.code F512),(520,.code F520),(517,.code F517),(521,.code F521),(509,.code F398),(399,.code F399),(515,.code F324),(332,.code F332),(522,.code F522),(523,.code F523),(524,.code F524),(525,.code F525),(530,.codeR F530 0),(531,.codeR F531 0),(532,.codeR F532 0),(408,.code F408),(545,.codeR F435 0),(546,.codeR F546 0),(547,.codeR F471 0),(548,.code F548),(405,.code F405),(513,.code F513),(539,.codeR F539 0),(540,.codeR F540 0),(541,.codeR F541 0),(542,.codeR F542 0),(543,.codeR F543 0),(328,.code F328),(549,.codeR F472 0),(550,.codeR F434 0),(551,.codeR F551 0),(329,.code F329),(518,.code F518),(45,.code F45),(360,.code F360),(353,.code F353),(153,.code F153),(116,.code F116),(354,.code F354),(395,.code F395),(552,.code F552),(554,.code F554),(555,.code F555),(556,.code F556),(557,.code F557),(558,.code F558),(560,.code F560),(561,.code F561),(562,.code F562),(563,.code F563),(564,.code F564),(491,.code F491),(565,.codeR F565 0),(566,.code F566),(368,.code F368),(39,.code F39),(430,.code F430),(41,.code F41),(431,.code F431),(432,.code F432),(470,.code F470),(494,.code F494),(435,.codeR F435 0),(434,.codeR F434 0),(471,.codeR F471 0),(472,.codeR F472 0),(414,.code F414),(536,.code F536),(425,.code F425),(37,.code F37),(426,.code F426),(533,.code F460),(534,.code F534),(535,.code F488),(506,.code F506),(567,.codeR F567 0),(507,.code F507),(568,.codeR F568 0),(490,.code F490),(569,.codeR F569 0),(141,.code F141),(126,.code F126),(28,.code F28),(346,.code F346),(347,.code F347),(348,.code F348),(495,.code F495),(469,.code F469),(147,.code F147),(114,.code F114),(349,.code F349),(24,.code F24),(350,.code F350),(351,.code F351),(504,.code F504),(544,.code F459),(70,.code F70),(372,.code F372),(345,.code F345),(397,.code F397),(401,.code F401),(43,.code F43),(511,.code F511),(570,.code F570),(571,.code F571),(572,.code F572),(573,.code F573),(574,.code F574),(413,.code F413),(577,.code F577),(578,.code F578),(505,.code F505),(465,.codeR F465 0),(464,.codeR F464 0),(492,.codeR F492 0),(493,.codeR F493 0),(466,.codeR F466 0),(341,.code F341),(63,.code F63),(64,.code F64),(65,.code F65),(66,.code F66),(67,.code F67),(68,.code F68),(428,.code F428),(40,.code F40),(468,.code F468),(487,.code F487),(445,.code F445),(460,.code F460),(459,.code F459),(488,.code F488),(489,.code F489),(411,.code F411),(60,.code F60),(61,.code F61),(62,.code F62),(38,.code F38),(42,.code F42),(503,.code F503),(162,.code F162),(163,.code F163),(164,.code F164),(165,.code F165),(166,.code F166),(32,.code F32),(369,.code F369),(173,.code F173),(174,.code F174),(486,.code F486),(101,.code F101),(249,.code F249),(421,.codeR F421 0),(422,.codeR F422 0),(423,.codeR F423 0),(526,.codeR F422 0),(528,.codeR F457 0),(527,.codeR F527 0),(485,.code F485),(529,.code F529),(484,.code F484),(580,.code F580),(581,.code F581),(582,.code F582),(583,.code F583),(427,.code F427),(439,.code F439),(440,.code F440),(15,.code F15),(442,.code F442),(585,.code F585),(366,.code F366),(367,.code F367),(75,.code F75),(76,.code F76),(467,.codeR F467 0),(502,.code F502),(436,.codeR F436 0),(246,.code F246),(424,.code F424),(185,.code F185),(186,.code F186),(167,.code F167),(184,.code F184),(244,.code F244),(301,.code F301),(284,.code F284),(455,.code F455),(456,.code F456),(457,.codeR F457 0),(458,.codeR F458 0),(586,.code F586),(429,.code F429),(473,.code F473),(462,.code F462),(463,.code F463),(474,.code F474),(240,.code F240),(26,.code F26),(27,.code F27),(47,.code F47),(587,.code F587),(293,.code F293),(245,.code F245),(300,.code F300),(461,.code F461),(192,.code F192),(168,.code F168),(187,.code F187),(203,.code F203),(81,.code F81),(298,.code F298),(299,.code F299),(316,.code F316),(313,.code F313),(483,.code F483),(71,.code F71),(496,.code F496),(72,.code F72),(499,.code F499),(285,.code F285),(287,.code F287),(171,.code F171),(288,.code F288),(289,.code F289),(290,.code F290),(31,.code F31),(304,.code F304),(292,.code F292),(204,.code F204),(80,.code F80),(142,.code F142),(6,.code F6),(188,.code F188),(189,.code F189),(195,.code F195),(7,.code F7),(97,.code F97),(98,.code F98),(315,.code F315),(314,.code F314),(82,.code F82),(84,.code F84),(200,.code F200),(88,.code F88),(312,.code F312),(220,.code F220),(221,.code F221),(4,.code F4),(95,.code F95),(96,.code F96),(169,.code F169),(22,.code F22),(319,.code F319),(320,.code F320),(100,.code F100),(3,.code F3),(225,.code F225),(5,.code F5),(106,.code F106),(69,.prim (some 0) (cloneQ 1)),(170,.prim none keyQ),(497,.prim (some 0) (cloneQ 9)),(498,.prim (some 1009) noQ),(307,.prim (some 0) (cloneQ 17)),(190,.prim none decQ),(317,.prim (some 1017) noQ),(222,.prim (some 1002) noQ),(102,.prim (some 0) (cloneQ 11)),(103,.prim (some 1011) noQ),(23,.prim (some 0) (cloneQ 5)),(227,.prim (some 0) (cloneQ 2))]
set_option maxRecDepth 100000
theorem okc {P:Go.Program} {cx:Cx} {tab:List (Nat×Fn)} {k:Nat} {F:F} {l:List (Nat×Fn)} (h:okF P cx (look tab) (cx.fm k) F=true) (t:okTab P cx tab l=true):okTab P cx tab ((k,.code F)::l)=true:=by simp[okTab,h,t]
theorem okcr {P:Go.Program} {cx:Cx} {tab:List (Nat×Fn)} {k j:Nat} {F:F} {l:List (Nat×Fn)} (h:okF P cx (look tab) (cx.fm k) F=true) (h2:rfQ F j=true) (t:okTab P cx tab l=true):okTab P cx tab ((k,.codeR F j)::l)=true:=by simp[okTab,h,h2,t]
theorem okp {P:Go.Program} {cx:Cx} {tab:List (Nat×Fn)} {k:Nat} {o:Option Nat} {p} {l:List (Nat×Fn)} (h:plQ o=true) (t:okTab P cx tab l=true):okTab P cx tab ((k,.prim o p)::l)=true:=by simp[okTab,h,t]
noncomputable abbrev okq (n:Nat) (x:F):Bool:=okF Tryz.prog (cxU nodeFm) (look nodeTab) ((cxU nodeFm).fm n) x
theorem ok519:okq 519 F519=true:=by kernel_rfl
theorem ok510:okq 510 F510=true:=by kernel_rfl
theorem ok512:okq 512 F512=true:=by kernel_rfl
theorem ok520:okq 520 F520=true:=by kernel_rfl
theorem ok517:okq 517 F517=true:=by kernel_rfl
theorem ok521:okq 521 F521=true:=by kernel_rfl
theorem ok509:okq 509 F398=true:=by kernel_rfl
theorem ok399:okq 399 F399=true:=by kernel_rfl
theorem ok515:okq 515 F324=true:=by kernel_rfl
theorem ok332:okq 332 F332=true:=by kernel_rfl
theorem ok522:okq 522 F522=true:=by kernel_rfl
theorem ok523:okq 523 F523=true:=by kernel_rfl
theorem ok524:okq 524 F524=true:=by kernel_rfl
theorem ok525:okq 525 F525=true:=by kernel_rfl
theorem ok530:okq 530 F530=true:=by kernel_rfl
theorem ok531:okq 531 F531=true:=by kernel_rfl
theorem ok532:okq 532 F532=true:=by kernel_rfl
theorem ok408:okq 408 F408=true:=by kernel_rfl
theorem ok545:okq 545 F435=true:=by kernel_rfl
theorem ok546:okq 546 F546=true:=by kernel_rfl
theorem ok547:okq 547 F471=true:=by kernel_rfl
theorem ok548:okq 548 F548=true:=by kernel_rfl
theorem ok405:okq 405 F405=true:=by kernel_rfl
theorem ok513:okq 513 F513=true:=by kernel_rfl
theorem ok539:okq 539 F539=true:=by kernel_rfl
theorem ok540:okq 540 F540=true:=by kernel_rfl
theorem ok541:okq 541 F541=true:=by kernel_rfl
theorem ok542:okq 542 F542=true:=by kernel_rfl
theorem ok543:okq 543 F543=true:=by kernel_rfl
theorem ok328:okq 328 F328=true:=by kernel_rfl
theorem ok549:okq 549 F472=true:=by kernel_rfl
theorem ok550:okq 550 F434=true:=by kernel_rfl
theorem ok551:okq 551 F551=true:=by kernel_rfl
theorem ok329:okq 329 F329=true:=by kernel_rfl
theorem ok518:okq 518 F518=true:=by kernel_rfl
theorem ok45:okq 45 F45=true:=by kernel_rfl
theorem ok360:okq 360 F360=true:=by kernel_rfl
theorem ok353:okq 353 F353=true:=by kernel_rfl
theorem ok153:okq 153 F153=true:=by kernel_rfl
theorem ok116:okq 116 F116=true:=by kernel_rfl
theorem ok354:okq 354 F354=true:=by kernel_rfl
theorem ok395:okq 395 F395=true:=by kernel_rfl
theorem ok552:okq 552 F552=true:=by kernel_rfl
theorem ok554:okq 554 F554=true:=by kernel_rfl
theorem ok555:okq 555 F555=true:=by kernel_rfl
theorem ok556:okq 556 F556=true:=by kernel_rfl
theorem ok557:okq 557 F557=true:=by kernel_rfl
theorem ok558:okq 558 F558=true:=by kernel_rfl
theorem ok560:okq 560 F560=true:=by kernel_rfl
theorem ok561:okq 561 F561=true:=by kernel_rfl
theorem ok562:okq 562 F562=true:=by kernel_rfl
theorem ok563:okq 563 F563=true:=by kernel_rfl
theorem ok564:okq 564 F564=true:=by kernel_rfl
theorem ok491:okq 491 F491=true:=by kernel_rfl
theorem ok565:okq 565 F565=true:=by kernel_rfl
theorem ok566:okq 566 F566=true:=by kernel_rfl
theorem ok368:okq 368 F368=true:=by kernel_rfl
theorem ok39:okq 39 F39=true:=by kernel_rfl
theorem ok430:okq 430 F430=true:=by kernel_rfl
theorem ok41:okq 41 F41=true:=by kernel_rfl
theorem ok431:okq 431 F431=true:=by kernel_rfl
theorem ok432:okq 432 F432=true:=by kernel_rfl
theorem ok470:okq 470 F470=true:=by kernel_rfl
theorem ok494:okq 494 F494=true:=by kernel_rfl
theorem ok435:okq 435 F435=true:=by kernel_rfl
theorem ok434:okq 434 F434=true:=by kernel_rfl
theorem ok471:okq 471 F471=true:=by kernel_rfl
theorem ok472:okq 472 F472=true:=by kernel_rfl
theorem ok414:okq 414 F414=true:=by kernel_rfl
theorem ok536:okq 536 F536=true:=by kernel_rfl
theorem ok425:okq 425 F425=true:=by kernel_rfl
theorem ok37:okq 37 F37=true:=by kernel_rfl
theorem ok426:okq 426 F426=true:=by kernel_rfl
theorem ok533:okq 533 F460=true:=by kernel_rfl
theorem ok534:okq 534 F534=true:=by kernel_rfl
theorem ok535:okq 535 F488=true:=by kernel_rfl
theorem ok506:okq 506 F506=true:=by kernel_rfl
theorem ok567:okq 567 F567=true:=by kernel_rfl
theorem ok507:okq 507 F507=true:=by kernel_rfl
theorem ok568:okq 568 F568=true:=by kernel_rfl
theorem ok490:okq 490 F490=true:=by kernel_rfl
theorem ok569:okq 569 F569=true:=by kernel_rfl
theorem ok141:okq 141 F141=true:=by kernel_rfl
theorem ok126:okq 126 F126=true:=by kernel_rfl
theorem ok28:okq 28 F28=true:=by kernel_rfl
theorem ok346:okq 346 F346=true:=by kernel_rfl
theorem ok347:okq 347 F347=true:=by kernel_rfl
theorem ok348:okq 348 F348=true:=by kernel_rfl
theorem ok495:okq 495 F495=true:=by kernel_rfl
theorem ok469:okq 469 F469=true:=by kernel_rfl
theorem ok147:okq 147 F147=true:=by kernel_rfl
theorem ok114:okq 114 F114=true:=by kernel_rfl
theorem ok349:okq 349 F349=true:=by kernel_rfl
theorem ok24:okq 24 F24=true:=by kernel_rfl
theorem ok350:okq 350 F350=true:=by kernel_rfl
theorem ok351:okq 351 F351=true:=by kernel_rfl
theorem ok504:okq 504 F504=true:=by kernel_rfl
theorem ok544:okq 544 F459=true:=by kernel_rfl
theorem ok70:okq 70 F70=true:=by kernel_rfl
theorem ok372:okq 372 F372=true:=by kernel_rfl
theorem ok345:okq 345 F345=true:=by kernel_rfl
theorem ok397:okq 397 F397=true:=by kernel_rfl
theorem ok401:okq 401 F401=true:=by kernel_rfl
theorem ok43:okq 43 F43=true:=by kernel_rfl
theorem ok511:okq 511 F511=true:=by kernel_rfl
theorem ok570:okq 570 F570=true:=by kernel_rfl
theorem ok571:okq 571 F571=true:=by kernel_rfl
theorem ok572:okq 572 F572=true:=by kernel_rfl
theorem ok573:okq 573 F573=true:=by kernel_rfl
theorem ok574:okq 574 F574=true:=by kernel_rfl
theorem ok413:okq 413 F413=true:=by kernel_rfl
theorem ok577:okq 577 F577=true:=by kernel_rfl
theorem ok578:okq 578 F578=true:=by kernel_rfl
theorem ok505:okq 505 F505=true:=by kernel_rfl
theorem ok465:okq 465 F465=true:=by kernel_rfl
theorem ok464:okq 464 F464=true:=by kernel_rfl
theorem ok492:okq 492 F492=true:=by kernel_rfl
theorem ok493:okq 493 F493=true:=by kernel_rfl
theorem ok466:okq 466 F466=true:=by kernel_rfl
theorem ok341:okq 341 F341=true:=by kernel_rfl
theorem ok63:okq 63 F63=true:=by kernel_rfl
theorem ok64:okq 64 F64=true:=by kernel_rfl
theorem ok65:okq 65 F65=true:=by kernel_rfl
theorem ok66:okq 66 F66=true:=by kernel_rfl
theorem ok67:okq 67 F67=true:=by kernel_rfl
theorem ok68:okq 68 F68=true:=by kernel_rfl
theorem ok428:okq 428 F428=true:=by kernel_rfl
theorem ok40:okq 40 F40=true:=by kernel_rfl
theorem ok468:okq 468 F468=true:=by kernel_rfl
theorem ok487:okq 487 F487=true:=by kernel_rfl
theorem ok445:okq 445 F445=true:=by kernel_rfl
theorem ok460:okq 460 F460=true:=by kernel_rfl
theorem ok459:okq 459 F459=true:=by kernel_rfl
theorem ok488:okq 488 F488=true:=by kernel_rfl
theorem ok489:okq 489 F489=true:=by kernel_rfl
theorem ok411:okq 411 F411=true:=by kernel_rfl
theorem ok60:okq 60 F60=true:=by kernel_rfl
theorem ok61:okq 61 F61=true:=by kernel_rfl
theorem ok62:okq 62 F62=true:=by kernel_rfl
theorem ok38:okq 38 F38=true:=by kernel_rfl
theorem ok42:okq 42 F42=true:=by kernel_rfl
theorem ok503:okq 503 F503=true:=by kernel_rfl
theorem ok162:okq 162 F162=true:=by kernel_rfl
theorem ok163:okq 163 F163=true:=by kernel_rfl
theorem ok164:okq 164 F164=true:=by kernel_rfl
theorem ok165:okq 165 F165=true:=by kernel_rfl
theorem ok166:okq 166 F166=true:=by kernel_rfl
theorem ok32:okq 32 F32=true:=by kernel_rfl
theorem ok369:okq 369 F369=true:=by kernel_rfl
theorem ok173:okq 173 F173=true:=by kernel_rfl
theorem ok174:okq 174 F174=true:=by kernel_rfl
theorem ok486:okq 486 F486=true:=by kernel_rfl
theorem ok101:okq 101 F101=true:=by kernel_rfl
theorem ok249:okq 249 F249=true:=by kernel_rfl
theorem ok421:okq 421 F421=true:=by kernel_rfl
theorem ok422:okq 422 F422=true:=by kernel_rfl
theorem ok423:okq 423 F423=true:=by kernel_rfl
theorem ok526:okq 526 F422=true:=by kernel_rfl
theorem ok528:okq 528 F457=true:=by kernel_rfl
theorem ok527:okq 527 F527=true:=by kernel_rfl
theorem ok485:okq 485 F485=true:=by kernel_rfl
theorem ok529:okq 529 F529=true:=by kernel_rfl
theorem ok484:okq 484 F484=true:=by kernel_rfl
theorem ok580:okq 580 F580=true:=by kernel_rfl
theorem ok581:okq 581 F581=true:=by kernel_rfl
theorem ok582:okq 582 F582=true:=by kernel_rfl
theorem ok583:okq 583 F583=true:=by kernel_rfl
theorem ok427:okq 427 F427=true:=by kernel_rfl
theorem ok439:okq 439 F439=true:=by kernel_rfl
theorem ok440:okq 440 F440=true:=by kernel_rfl
theorem ok15:okq 15 F15=true:=by kernel_rfl
theorem ok442:okq 442 F442=true:=by kernel_rfl
theorem ok585:okq 585 F585=true:=by kernel_rfl
theorem ok366:okq 366 F366=true:=by kernel_rfl
theorem ok367:okq 367 F367=true:=by kernel_rfl
theorem ok75:okq 75 F75=true:=by kernel_rfl
theorem ok76:okq 76 F76=true:=by kernel_rfl
theorem ok467:okq 467 F467=true:=by kernel_rfl
theorem ok502:okq 502 F502=true:=by kernel_rfl
theorem ok436:okq 436 F436=true:=by kernel_rfl
theorem ok246:okq 246 F246=true:=by kernel_rfl
theorem ok424:okq 424 F424=true:=by kernel_rfl
theorem ok185:okq 185 F185=true:=by kernel_rfl
theorem ok186:okq 186 F186=true:=by kernel_rfl
theorem ok167:okq 167 F167=true:=by kernel_rfl
theorem ok184:okq 184 F184=true:=by kernel_rfl
theorem ok244:okq 244 F244=true:=by kernel_rfl
theorem ok301:okq 301 F301=true:=by kernel_rfl
theorem ok284:okq 284 F284=true:=by kernel_rfl
theorem ok455:okq 455 F455=true:=by kernel_rfl
theorem ok456:okq 456 F456=true:=by kernel_rfl
theorem ok457:okq 457 F457=true:=by kernel_rfl
theorem ok458:okq 458 F458=true:=by kernel_rfl
theorem ok586:okq 586 F586=true:=by kernel_rfl
theorem ok429:okq 429 F429=true:=by kernel_rfl
theorem ok473:okq 473 F473=true:=by kernel_rfl
theorem ok462:okq 462 F462=true:=by kernel_rfl
theorem ok463:okq 463 F463=true:=by kernel_rfl
theorem ok474:okq 474 F474=true:=by kernel_rfl
theorem ok240:okq 240 F240=true:=by kernel_rfl
theorem ok26:okq 26 F26=true:=by kernel_rfl
theorem ok27:okq 27 F27=true:=by kernel_rfl
theorem ok47:okq 47 F47=true:=by kernel_rfl
theorem ok587:okq 587 F587=true:=by kernel_rfl
theorem ok293:okq 293 F293=true:=by kernel_rfl
theorem ok245:okq 245 F245=true:=by kernel_rfl
theorem ok300:okq 300 F300=true:=by kernel_rfl
theorem ok461:okq 461 F461=true:=by kernel_rfl
theorem ok192:okq 192 F192=true:=by kernel_rfl
theorem ok168:okq 168 F168=true:=by kernel_rfl
theorem ok187:okq 187 F187=true:=by kernel_rfl
theorem ok203:okq 203 F203=true:=by kernel_rfl
theorem ok81:okq 81 F81=true:=by kernel_rfl
theorem ok298:okq 298 F298=true:=by kernel_rfl
theorem ok299:okq 299 F299=true:=by kernel_rfl
theorem ok316:okq 316 F316=true:=by kernel_rfl
theorem ok313:okq 313 F313=true:=by kernel_rfl
theorem ok483:okq 483 F483=true:=by kernel_rfl
theorem ok71:okq 71 F71=true:=by kernel_rfl
theorem ok496:okq 496 F496=true:=by kernel_rfl
theorem ok72:okq 72 F72=true:=by kernel_rfl
theorem ok499:okq 499 F499=true:=by kernel_rfl
theorem ok285:okq 285 F285=true:=by kernel_rfl
theorem ok287:okq 287 F287=true:=by kernel_rfl
theorem ok171:okq 171 F171=true:=by kernel_rfl
theorem ok288:okq 288 F288=true:=by kernel_rfl
theorem ok289:okq 289 F289=true:=by kernel_rfl
theorem ok290:okq 290 F290=true:=by kernel_rfl
theorem ok31:okq 31 F31=true:=by kernel_rfl
theorem ok304:okq 304 F304=true:=by kernel_rfl
theorem ok292:okq 292 F292=true:=by kernel_rfl
theorem ok204:okq 204 F204=true:=by kernel_rfl
theorem ok80:okq 80 F80=true:=by kernel_rfl
theorem ok142:okq 142 F142=true:=by kernel_rfl
theorem ok6:okq 6 F6=true:=by kernel_rfl
theorem ok188:okq 188 F188=true:=by kernel_rfl
theorem ok189:okq 189 F189=true:=by kernel_rfl
theorem ok195:okq 195 F195=true:=by kernel_rfl
theorem ok7:okq 7 F7=true:=by kernel_rfl
theorem ok97:okq 97 F97=true:=by kernel_rfl
theorem ok98:okq 98 F98=true:=by kernel_rfl
theorem ok315:okq 315 F315=true:=by kernel_rfl
theorem ok314:okq 314 F314=true:=by kernel_rfl
theorem ok82:okq 82 F82=true:=by kernel_rfl
theorem ok84:okq 84 F84=true:=by kernel_rfl
theorem ok200:okq 200 F200=true:=by kernel_rfl
theorem ok88:okq 88 F88=true:=by kernel_rfl
theorem ok312:okq 312 F312=true:=by kernel_rfl
theorem ok220:okq 220 F220=true:=by kernel_rfl
theorem ok221:okq 221 F221=true:=by kernel_rfl
theorem ok4:okq 4 F4=true:=by kernel_rfl
theorem ok95:okq 95 F95=true:=by kernel_rfl
theorem ok96:okq 96 F96=true:=by kernel_rfl
theorem ok169:okq 169 F169=true:=by kernel_rfl
theorem ok22:okq 22 F22=true:=by kernel_rfl
theorem ok319:okq 319 F319=true:=by kernel_rfl
theorem ok320:okq 320 F320=true:=by kernel_rfl
theorem ok100:okq 100 F100=true:=by kernel_rfl
theorem ok3:okq 3 F3=true:=by kernel_rfl
theorem ok225:okq 225 F225=true:=by kernel_rfl
theorem ok5:okq 5 F5=true:=by kernel_rfl
theorem ok106:okq 106 F106=true:=by kernel_rfl
theorem okAll:okTab Tryz.prog (cxU nodeFm) nodeTab nodeTab=true:=okc ok519 (okc ok510 (okc ok512 (okc ok520 (okc ok517 (okc ok521 (okc ok509 (okc ok399 (okc ok515 (okc ok332 (okc ok522 (okc ok523 (okc ok524 (okc ok525 (okcr ok530 rfl (okcr ok531 rfl (okcr ok532 rfl (okc ok408 (okcr ok545 rfl (okcr ok546 rfl (okcr ok547 rfl (okc ok548 (okc ok405 (okc ok513 (okcr ok539 rfl (okcr ok540 rfl (okcr ok541 rfl (okcr ok542 rfl (okcr ok543 rfl (okc ok328 (okcr ok549 rfl (okcr ok550 rfl (okcr ok551 rfl (okc ok329 (okc ok518 (okc ok45 (okc ok360 (okc ok353 (okc ok153 (okc ok116 (okc ok354 (okc ok395 (okc ok552 (okc ok554 (okc ok555 (okc ok556 (okc ok557 (okc ok558 (okc ok560 (okc ok561 (okc ok562 (okc ok563 (okc ok564 (okc ok491 (okcr ok565 rfl (okc ok566 (okc ok368 (okc ok39 (okc ok430 (okc ok41 (okc ok431 (okc ok432 (okc ok470 (okc ok494 (okcr ok435 rfl (okcr ok434 rfl (okcr ok471 rfl (okcr ok472 rfl (okc ok414 (okc ok536 (okc ok425 (okc ok37 (okc ok426 (okc ok533 (okc ok534 (okc ok535 (okc ok506 (okcr ok567 rfl (okc ok507 (okcr ok568 rfl (okc ok490 (okcr ok569 rfl (okc ok141 (okc ok126 (okc ok28 (okc ok346 (okc ok347 (okc ok348 (okc ok495 (okc ok469 (okc ok147 (okc ok114 (okc ok349 (okc ok24 (okc ok350 (okc ok351 (okc ok504 (okc ok544 (okc ok70 (okc ok372 (okc ok345 (okc ok397 (okc ok401 (okc ok43 (okc ok511 (okc ok570 (okc ok571 (okc ok572 (okc ok573 (okc ok574 (okc ok413 (okc ok577 (okc ok578 (okc ok505 (okcr ok465 rfl (okcr ok464 rfl (okcr ok492 rfl (okcr ok493 rfl (okcr ok466 rfl (okc ok341 (okc ok63 (okc ok64 (okc ok65 (okc ok66 (okc ok67 (okc ok68 (okc ok428 (okc ok40 (okc ok468 (okc ok487 (okc ok445 (okc ok460 (okc ok459 (okc ok488 (okc ok489 (okc ok411 (okc ok60 (okc ok61 (okc ok62 (okc ok38 (okc ok42 (okc ok503 (okc ok162 (okc ok163 (okc ok164 (okc ok165 (okc ok166 (okc ok32 (okc ok369 (okc ok173 (okc ok174 (okc ok486 (okc ok101 (okc ok249 (okcr ok421 rfl (okcr ok422 rfl (okcr ok423 rfl (okcr ok526 rfl (okcr ok528 rfl (okcr ok527 rfl (okc ok485 (okc ok529 (okc ok484 (okc ok580 (okc ok581 (okc ok582 (okc ok583 (okc ok427 (okc ok439 (okc ok440 (okc ok15 (okc ok442 (okc ok585 (okc ok366 (okc ok367 (okc ok75 (okc ok76 (okcr ok467 rfl (okc ok502 (okcr ok436 rfl (okc ok246 (okc ok424 (okc ok185 (okc ok186 (okc ok167 (okc ok184 (okc ok244 (okc ok301 (okc ok284 (okc ok455 (okc ok456 (okcr ok457 rfl (okcr ok458 rfl (okc ok586 (okc ok429 (okc ok473 (okc ok462 (okc ok463 (okc ok474 (okc ok240 (okc ok26 (okc ok27 (okc ok47 (okc ok587 (okc ok293 (okc ok245 (okc ok300 (okc ok461 (okc ok192 (okc ok168 (okc ok187 (okc ok203 (okc ok81 (okc ok298 (okc ok299 (okc ok316 (okc ok313 (okc ok483 (okc ok71 (okc ok496 (okc ok72 (okc ok499 (okc ok285 (okc ok287 (okc ok171 (okc ok288 (okc ok289 (okc ok290 (okc ok31 (okc ok304 (okc ok292 (okc ok204 (okc ok80 (okc ok142 (okc ok6 (okc ok188 (okc ok189 (okc ok195 (okc ok7 (okc ok97 (okc ok98 (okc ok315 (okc ok314 (okc ok82 (okc ok84 (okc ok200 (okc ok88 (okc ok312 (okc ok220 (okc ok221 (okc ok4 (okc ok95 (okc ok96 (okc ok169 (okc ok22 (okc ok319 (okc ok320 (okc ok100 (okc ok3 (okc ok225 (okc ok5 (okc ok106 (okp rfl (okp rfl (okp rfl (okp rfl (okp rfl (okp rfl (okp rfl (okp rfl (okp rfl (okp rfl (okp rfl (okp rfl (rfl))))))))))))))))))))))))))))))))))))))))))))))))))))))))))))))))))))))))))))))))))))))))))))))))))))))))))))))))))))))))))))))))))))))))))))))))))))))))))))))))))))))))))))))))))))))))))))))))))))))))))))))))))))))))))))))))))))))))))))))))))))))))))))))))))))))))))))))))))
theorem okClone69:okF Tryz.prog (cxU nodeFm) (onePg 69 (cloneF 1 [.int .i64 0])) 190 (cloneF 1 [.int .i64 0])=true:=by kernel_rfl
theorem okClone497:okF Tryz.prog (cxU nodeFm) (onePg 497 (cloneF 9 [.int .i64 0,.int .i64 0,.int .i64 0,.slice 1 [],.int .i64 0,.str [],.str [],.slice 1 [],.slice 36 []])) 380 (cloneF 9 [.int .i64 0,.int .i64 0,.int .i64 0,.slice 1 [],.int .i64 0,.str [],.str [],.slice 1 [],.slice 36 []])=true:=by kernel_rfl
theorem okClone307:okF Tryz.prog (cxU nodeFm) (onePg 307 (cloneF 17 [.int .i64 0,.int .i64 0,.str [],.str [],.int .i64 0,.slice 2 [],.int .i64 0,.int .i64 0,.int .i64 0,.int .i64 0,.int .i64 0,.int .i64 0,.slice 11 [],.int .i64 0,.int .i64 0,.int .i64 0,.int .i64 0])) 394 (cloneF 17 [.int .i64 0,.int .i64 0,.str [],.str [],.int .i64 0,.slice 2 [],.int .i64 0,.int .i64 0,.int .i64 0,.int .i64 0,.int .i64 0,.int .i64 0,.slice 11 [],.int .i64 0,.int .i64 0,.int .i64 0,.int .i64 0])=true:=by kernel_rfl
theorem okClone102:okF Tryz.prog (cxU nodeFm) (onePg 102 (cloneF 11 [.int .i64 0,.int .i64 0,.int .i64 0,.int .i64 0,.int .i64 0,.int .i64 0,.bool false,.str [],.slice 2 [],.str [],.bool false])) 425 (cloneF 11 [.int .i64 0,.int .i64 0,.int .i64 0,.int .i64 0,.int .i64 0,.int .i64 0,.bool false,.str [],.slice 2 [],.str [],.bool false])=true:=by kernel_rfl
theorem okClone23:okF Tryz.prog (cxU nodeFm) (onePg 23 (cloneF 5 [.int .i64 0,.int .i64 0,.int .i64 0,.bool false,.str []])) 430 (cloneF 5 [.int .i64 0,.int .i64 0,.int .i64 0,.bool false,.str []])=true:=by kernel_rfl
theorem okClone227:okF Tryz.prog (cxU nodeFm) (onePg 227 (cloneF 2 [.str [],.slice 5 []])) 435 (cloneF 2 [.str [],.slice 5 []])=true:=by kernel_rfl
end Sg
namespace Sg
open Go Go.RowKit Go.Lib Go.Proofs
def insB:=And.intro Tryz.underlying0 (And.intro Tryz.underlying3 (And.intro Tryz.underlying4 (And.intro Tryz.isAgg0 (And.intro Tryz.isAgg3 (And.intro Tryz.isAgg4 (And.intro Tryz.sizeOf0 (And.intro Tryz.sizeOf3 (And.intro Tryz.sizeOf4 (And.intro Tryz.zeroValue0 (And.intro Tryz.zeroValue3 (And.intro Tryz.zeroValue4 (And.intro (run_underlying Tryz.underlying0) (And.intro (run_underlying Tryz.underlying3) ((run_underlying Tryz.underlying4)))))))))))))))
def insB381:=And.intro Tryz.underlying76 (And.intro Tryz.underlying22 (And.intro Tryz.isAgg76 (And.intro Tryz.isAgg22 (And.intro Tryz.sizeOf76 (And.intro Tryz.sizeOf22 (And.intro Tryz.zeroValue22 ((run_underlying Tryz.underlying22))))))))
set_option maxRecDepth 100000 in
theorem ins381_shift (b off n c i vb voff m vc:Nat) (cs vs:List Value) (w:World) (hi:i<n) (hm:0<m) (hroom:n+m≤c) (hlim:n+m≤1073741824) (hvb:vb≠b)
  (hcl:cs.length=n*9) (hvl:vs.length=m*9)
  (hcs:∀j v,cs[j]?=some v→w.cell? ⟨b,off+j,none⟩=some v) (hsp:∀j,j<(n+m)*9→(w.cell? ⟨b,off+j,none⟩).isSome=true) (hfz:∀j,w.frozen? ⟨b,j,none⟩=false)
  (hvs:∀j v,vs[j]?=some v→w.cell? ⟨vb,voff+j,none⟩=some v) (h1c:∀v∈cs,v.oneCell'=true) (h1v:∀v∈vs,v.oneCell'=true)
  (tA tB:TypeId) (kA kB:Nat) (hsa:w.shape? vb=some (tA,kA)) (hsb:w.shape? b=some (tB,kB)) (hkA:kA≠0) :
  Calls Tryz.prog 381 #[.slice (some ⟨b,off,none⟩) n c,.int .i64 i,.slice (some ⟨vb,voff,none⟩) m vc] w fun e w'=>
   e=.returned (.slice (some ⟨b,off,none⟩) (n+m) c)∧w'=(w.drew.setCells b (off+(i+m)*9) (cs.drop (i*9))).setCells b (off+i*9) vs:=by
 obtain⟨t0,t3,t4,a0,a3,a4,z0,z3,z4,v0,v3,v4,u0,u3,u4⟩:=insB
 obtain⟨t9,t24,a9,a24,z9,z24,v24,u24⟩:=insB381
 have hz1:¬((m:Int)=0):=by omega
 have hz2:¬((i:Int)=(n:Int)):=by omega
 have hsz:(Tryz.prog.info? 76).map (·.size)=some 9:=by kernel_rfl
 have hov:∀lb cb,(callFunc 405 #[.slice (some ⟨vb,voff,none⟩) m vc,.slice (some ⟨b,off+(i+m)*9,none⟩) lb cb]).run Tryz.prog w=.ok (.value (.bool false)) w:=fun lb cb=>by
  rw[run_callFunc_extern Tryz.func405 (by kernel_rfl) (by kernel_rfl) (by kernel_rfl) (e:=Extern.SlicesOverlaps.overlaps #[22,22] #[4]) (by kernel_rfl),
   run_overlaps_k w 22 4 76 t24 9 z9 ⟨vb,voff,none⟩ ⟨b,off+(i+m)*9,none⟩ m vc lb cb hvb tA tB kA kB hsa hsb hkA (hfz _) (hfz _)]
  rfl
 have mixed:Tryz.prog.follows .mixedOrders=true:=by kernel_rfl
 have hw1:IntKind.i64.wrap ((i:Int)+(m:Int))=(i:Int)+(m:Int):=by rw[IntKind.wrap_i64];omega
 have hb1:(0:Int)≤(i:Int)+(m:Int):=by omega
 have hin:i≤n:=by omega
 have htn:((i:Int)+(m:Int)).toNat=i+m:=by omega
 have hb2:¬(c=i+m):=by omega
 have hb3:(i:Int)≤(n:Int)+(m:Int):=by omega
 have hb4:¬(c=i):=by omega
 obtain⟨W1,hW1,hcp1,hcp2⟩:=ins_p1 t24 hsz b off n c i vb voff m vc cs vs w hi hm hvb hcl hvl hcs hsp hfz hvs h1c h1v
 go_enter Tryz.func381,Tryz.ntmps381
 go_wp2_with (simp only[hov])
 go_region_law_o (refine step_copy_k rfl _ _ 22 22 rfl _ _ (by simp[Act.eval,Act.put]) (by simp[Act.eval,Act.put]) (hcp1 _ _ _) ?_)
 go_wp2_with (at_builtin;refine wpList_copy_k _ rfl _ _ 22 22 rfl _ _ rfl rfl (hcp2 _ (fun _=>rfl) (fun _=>rfl) _ _) ?_)
 go_ret
 first|exact⟨rfl,rfl⟩|exact⟨rfl,by rw[hW1]⟩
set_option maxRecDepth 100000 in
theorem ins381_end (base:Option Addr) (n c m vc:Nat) (vb:Option Addr) (w w':World) (q:Value) (hm:0<m) (hnc:n≤c) (hlim:n+m≤1073741824) (hnil:base=none→n=0)
  (hrun:(Builtin.append_ #[22,22] 22 #[.slice base n c,.slice vb m vc]).run Tryz.prog w=.ok q w') :
  Calls Tryz.prog 381 #[.slice base n c,.int .i64 n,.slice vb m vc] w fun e w1=>e=.returned q∧w1=w':=by
 obtain⟨t0,t3,t4,a0,a3,a4,z0,z3,z4,v0,v3,v4,u0,u3,u4⟩:=insB
 obtain⟨t9,t24,a9,a24,z9,z24,v24,u24⟩:=insB381
 have mixed:Tryz.prog.follows .mixedOrders=true:=by kernel_rfl
 have hz1:¬((m:Int)=0):=by omega
 go_enter Tryz.func381,Tryz.ntmps381
 cases base with
 |none=>
  have h0:=hnil rfl
  subst h0
  go_wp2_with (at_builtin;refine Lib.wpList_append_run _ rfl _ _ _ _ rfl _ _ rfl rfl _ _ hrun ?_)
  all_goals (go_ret;exact⟨rfl,rfl⟩)
 |some a=>
  obtain⟨ab,ao,asp⟩:=a
  go_wp2_with (at_builtin;refine Lib.wpList_append_run _ rfl _ _ _ _ rfl _ _ rfl rfl _ _ hrun ?_)
  all_goals (go_ret;exact⟨rfl,rfl⟩)
set_option maxRecDepth 100000 in
theorem ins381_none (base:Option Addr) (n c i vc:Nat) (vb:Option Addr) (w:World) (hnc:n≤c) (hi:i≤n) (hnil:base=none→n=0) :
  Calls Tryz.prog 381 #[.slice base n c,.int .i64 i,.slice vb 0 vc] w fun e w1=>e=.returned (.slice base n c)∧w1=w:=by
 obtain⟨t0,t3,t4,a0,a3,a4,z0,z3,z4,v0,v3,v4,u0,u3,u4⟩:=insB
 obtain⟨t9,t24,a9,a24,z9,z24,v24,u24⟩:=insB381
 have mixed:Tryz.prog.follows .mixedOrders=true:=by kernel_rfl
 go_enter Tryz.func381,Tryz.ntmps381
 cases base with
 |none=>
  have h0:=hnil rfl
  subst h0
  have hi0:i=0:=by omega
  subst hi0
  go_wp2
  all_goals (go_ret;exact⟨rfl,rfl⟩)
 |some a=>
  obtain⟨ab,ao,asp⟩:=a
  go_wp2
  all_goals (go_ret;exact⟨rfl,rfl⟩)
set_option maxRecDepth 100000 in
theorem ins381_grow (b off n c i vb voff m vc:Nat) (cs vs:List Value) (w:World) (hi:i<n) (hm:0<m) (hnc:n≤c) (hroom:c<n+m) (hlim:n+m≤1073741824)
  (hcl:cs.length=n*9) (hvl:vs.length=m*9) (hbw:b<w.heap.size) (hvw:vb<w.heap.size)
  (hcs:∀j v,cs[j]?=some v→w.cell? ⟨b,off+j,none⟩=some v)
  (hvs:∀j v,vs[j]?=some v→w.cell? ⟨vb,voff+j,none⟩=some v) (h1c:∀v∈cs,v.oneCell'=true) (h1v:∀v∈vs,v.oneCell'=true) :
  Calls Tryz.prog 381 #[.slice (some ⟨b,off,none⟩) n c,.int .i64 i,.slice (some ⟨vb,voff,none⟩) m vc] w fun e w'=>
   ∃(G:Nat) (ROW:Array Value) (d1:Nat),n+m≤G∧(n+m)*9≤ROW.size∧ROW.size=G*9∧(∀(j:Nat) (v:Value),(cs.take (i*9))[j]?=some v→ROW[j]?=some v)∧e=.returned (.slice (some ⟨w.heap.size,0,none⟩) (n+m) G)∧
   w'=((({w with drawn:=d1}:World).alloc (.cells ROW 76)).setCells w.heap.size (i*9) vs).setCells w.heap.size ((i+m)*9) (cs.drop (i*9)):=by
 obtain⟨t0,t3,t4,a0,a3,a4,z0,z3,z4,v0,v3,v4,u0,u3,u4⟩:=insB
 obtain⟨t9,t24,a9,a24,z9,z24,v24,u24⟩:=insB381
 have mixed:Tryz.prog.follows .mixedOrders=true:=by kernel_rfl
 obtain⟨i0,hi0,hz0,hzs,hzb⟩:∃i0,Tryz.prog.info? 76=some i0∧i0.zero=some (Value.agg #[.int .i64 0,.int .i64 0,.int .i64 0,.slice none 0 0,.int .i64 0,.string ⟨#[]⟩,.string ⟨#[]⟩,.slice none 0 0,.slice none 0 0])∧i0.size=9∧i0.bytes=136:=⟨_,rfl,rfl,rfl,rfl⟩
 have hz1:¬((m:Int)=0):=by omega
 have hz2:¬((i:Int)=(n:Int)):=by omega
 have hz3:(c:Int)<(n:Int)+(m:Int):=by omega
 obtain⟨G,ROW,hGn,hRl,hRs,hRt,hG63,hrz,hcpA,hcpB⟩:=ins_p2 t24 t3 i0 (Value.agg #[.int .i64 0,.int .i64 0,.int .i64 0,.slice none 0 0,.int .i64 0,.string ⟨#[]⟩,.string ⟨#[]⟩,.slice none 0 0,.slice none 0 0]) hi0 hz0 hzs (by decide) (by rw[hzb];decide) (fun k=>by simp[Builtin.zeroCells,Value.cells]) b off n c i vb voff m vc cs vs w hi hm hnc hroom hlim hcl hvl hbw hvw hcs hvs h1c h1v
 have hGi:¬(G=i):=by omega
 have hGim:¬(G=i+m):=by omega
 have hci:¬(c=i):=by omega
 have hE1:∀x,((w.alloc (.cells ROW 76)).drew).cell? x=(w.drew.alloc (.cells ROW 76)).cell? x:=fun x=>rfl
 have hE2:∀x,((w.alloc (.cells ROW 76)).drew).frozen? x=(w.drew.alloc (.cells ROW 76)).frozen? x:=fun x=>rfl
 have hF1:∀x,(((w.alloc (.cells ROW 76)).drew.setCells w.heap.size (i*9) vs).drew).cell? x=((w.drew.alloc (.cells ROW 76)).setCells w.heap.size (i*9) vs).cell? x:=fun x=>rfl
 have hF2:∀x,(((w.alloc (.cells ROW 76)).drew.setCells w.heap.size (i*9) vs).drew).frozen? x=((w.drew.alloc (.cells ROW 76)).setCells w.heap.size (i*9) vs).frozen? x:=fun x=>rfl
 have hw1:IntKind.i64.wrap ((i:Int)+(m:Int))=(i:Int)+(m:Int):=by rw[IntKind.wrap_i64];omega
 have hb1:(0:Int)≤(i:Int)+(m:Int):=by omega
 have hin:i≤n:=by omega
 have htn:((i:Int)+(m:Int)).toNat=i+m:=by omega
 have hb3:(i:Int)≤(n:Int):=by omega
 go_enter Tryz.func381,Tryz.ntmps381
 go_wp2_with (first
  |(at_builtin;refine Lib.wpList_append_run _ rfl _ _ _ _ rfl _ _ rfl rfl _ _ (hrz _) ?_)
  |(at_builtin;refine wpList_copy_k _ rfl _ _ 22 22 rfl _ _ rfl rfl (hcpA _ hE1 hE2 _ _) ?_)
  |(at_builtin;refine wpList_copy_k _ rfl _ _ 22 22 rfl _ _ rfl rfl (hcpB _ (fun _=>rfl) (fun _=>rfl) _ _ _) ?_))
 go_region_law_o (refine step_copy_k rfl _ _ 22 22 rfl (.slice (some ⟨w.heap.size,(i+m)*9,none⟩) (n+m-(i+m)) (G-(i+m))) (.slice (some ⟨b,off+i*9,none⟩) (n-i) (c-i)) (by simp[Act.eval,Act.put]) (by simp[Act.eval,Act.put]) (hcpB _ hF1 hF2 3 (G-(i+m)) (c-i)) ?_)
 go_wp2
 go_ret
 exact⟨G,ROW,w.drew.drew.drawn,hGn,hRl,hRs,hRt,rfl,by first|rfl|(rw[drew_setK];rfl)|(simp only[drew_setK];rfl)⟩
theorem insC381:InsC Tryz.prog 381 9 22 76 where
 ent:=⟨Tryz.f381,Tryz.func381,by kernel_rfl,by kernel_rfl⟩
 hS:=Tryz.underlying22
 hz:=by kernel_rfl
 pos:=by decide
 info:=⟨_,(Value.agg #[.int .i64 0,.int .i64 0,.int .i64 0,.slice none 0 0,.int .i64 0,.string ⟨#[]⟩,.string ⟨#[]⟩,.slice none 0 0,.slice none 0 0]),rfl,by decide,rfl,rfl⟩
 nothing:=fun base n c i vc vb w h1 h2 h3=>ins381_none base n c i vc vb w h1 h2 h3
 end_:=fun base n c m vc vb w w' q h1 h2 h3 h4 h5=>ins381_end base n c m vc vb w w' q h1 h2 h3 h4 h5
 shift:=fun b off n c i vb voff m vc cs vs w h1 h2 h3 h4 h5 h6 h7 h8 h9 h10 h11 h12 h13 tA tB kA kB h14 h15 h16=>ins381_shift b off n c i vb voff m vc cs vs w h1 h2 h3 h4 h5 h6 h7 h8 h9 h10 h11 h12 h13 tA tB kA kB h14 h15 h16
 grow:=fun b off n c i vb voff m vc cs vs w h1 h2 h3 h4 h5 h6 h7 h8 h9 h10 h11 h12 h13=>ins381_grow b off n c i vb voff m vc cs vs w h1 h2 h3 h4 h5 h6 h7 h8 h9 h10 h11 h12 h13
def insB415:=And.intro Tryz.underlying246 (And.intro Tryz.underlying105 (And.intro Tryz.isAgg246 (And.intro Tryz.isAgg105 (And.intro Tryz.sizeOf246 (And.intro Tryz.sizeOf105 (And.intro Tryz.zeroValue105 ((run_underlying Tryz.underlying105))))))))
set_option maxRecDepth 100000 in
theorem ins415_shift (b off n c i vb voff m vc:Nat) (cs vs:List Value) (w:World) (hi:i<n) (hm:0<m) (hroom:n+m≤c) (hlim:n+m≤1073741824) (hvb:vb≠b)
  (hcl:cs.length=n*17) (hvl:vs.length=m*17)
  (hcs:∀j v,cs[j]?=some v→w.cell? ⟨b,off+j,none⟩=some v) (hsp:∀j,j<(n+m)*17→(w.cell? ⟨b,off+j,none⟩).isSome=true) (hfz:∀j,w.frozen? ⟨b,j,none⟩=false)
  (hvs:∀j v,vs[j]?=some v→w.cell? ⟨vb,voff+j,none⟩=some v) (h1c:∀v∈cs,v.oneCell'=true) (h1v:∀v∈vs,v.oneCell'=true)
  (tA tB:TypeId) (kA kB:Nat) (hsa:w.shape? vb=some (tA,kA)) (hsb:w.shape? b=some (tB,kB)) (hkA:kA≠0) :
  Calls Tryz.prog 415 #[.slice (some ⟨b,off,none⟩) n c,.int .i64 i,.slice (some ⟨vb,voff,none⟩) m vc] w fun e w'=>
   e=.returned (.slice (some ⟨b,off,none⟩) (n+m) c)∧w'=(w.drew.setCells b (off+(i+m)*17) (cs.drop (i*17))).setCells b (off+i*17) vs:=by
 obtain⟨t0,t3,t4,a0,a3,a4,z0,z3,z4,v0,v3,v4,u0,u3,u4⟩:=insB
 obtain⟨t9,t24,a9,a24,z9,z24,v24,u24⟩:=insB415
 have hz1:¬((m:Int)=0):=by omega
 have hz2:¬((i:Int)=(n:Int)):=by omega
 have hsz:(Tryz.prog.info? 246).map (·.size)=some 17:=by kernel_rfl
 have hov:∀lb cb,(callFunc 431 #[.slice (some ⟨vb,voff,none⟩) m vc,.slice (some ⟨b,off+(i+m)*17,none⟩) lb cb]).run Tryz.prog w=.ok (.value (.bool false)) w:=fun lb cb=>by
  rw[run_callFunc_extern Tryz.func431 (by kernel_rfl) (by kernel_rfl) (by kernel_rfl) (e:=Extern.SlicesOverlaps.overlaps #[105,105] #[4]) (by kernel_rfl),
   run_overlaps_k w 105 4 246 t24 17 z9 ⟨vb,voff,none⟩ ⟨b,off+(i+m)*17,none⟩ m vc lb cb hvb tA tB kA kB hsa hsb hkA (hfz _) (hfz _)]
  rfl
 have mixed:Tryz.prog.follows .mixedOrders=true:=by kernel_rfl
 have hw1:IntKind.i64.wrap ((i:Int)+(m:Int))=(i:Int)+(m:Int):=by rw[IntKind.wrap_i64];omega
 have hb1:(0:Int)≤(i:Int)+(m:Int):=by omega
 have hin:i≤n:=by omega
 have htn:((i:Int)+(m:Int)).toNat=i+m:=by omega
 have hb2:¬(c=i+m):=by omega
 have hb3:(i:Int)≤(n:Int)+(m:Int):=by omega
 have hb4:¬(c=i):=by omega
 obtain⟨W1,hW1,hcp1,hcp2⟩:=ins_p1 t24 hsz b off n c i vb voff m vc cs vs w hi hm hvb hcl hvl hcs hsp hfz hvs h1c h1v
 go_enter Tryz.func415,Tryz.ntmps415
 go_wp2_with (simp only[hov])
 go_region_law_o (refine step_copy_k rfl _ _ 105 105 rfl _ _ (by simp[Act.eval,Act.put]) (by simp[Act.eval,Act.put]) (hcp1 _ _ _) ?_)
 go_wp2_with (at_builtin;refine wpList_copy_k _ rfl _ _ 105 105 rfl _ _ rfl rfl (hcp2 _ (fun _=>rfl) (fun _=>rfl) _ _) ?_)
 go_ret
 first|exact⟨rfl,rfl⟩|exact⟨rfl,by rw[hW1]⟩
set_option maxRecDepth 100000 in
theorem ins415_end (base:Option Addr) (n c m vc:Nat) (vb:Option Addr) (w w':World) (q:Value) (hm:0<m) (hnc:n≤c) (hlim:n+m≤1073741824) (hnil:base=none→n=0)
  (hrun:(Builtin.append_ #[105,105] 105 #[.slice base n c,.slice vb m vc]).run Tryz.prog w=.ok q w') :
  Calls Tryz.prog 415 #[.slice base n c,.int .i64 n,.slice vb m vc] w fun e w1=>e=.returned q∧w1=w':=by
 obtain⟨t0,t3,t4,a0,a3,a4,z0,z3,z4,v0,v3,v4,u0,u3,u4⟩:=insB
 obtain⟨t9,t24,a9,a24,z9,z24,v24,u24⟩:=insB415
 have mixed:Tryz.prog.follows .mixedOrders=true:=by kernel_rfl
 have hz1:¬((m:Int)=0):=by omega
 go_enter Tryz.func415,Tryz.ntmps415
 cases base with
 |none=>
  have h0:=hnil rfl
  subst h0
  go_wp2_with (at_builtin;refine Lib.wpList_append_run _ rfl _ _ _ _ rfl _ _ rfl rfl _ _ hrun ?_)
  all_goals (go_ret;exact⟨rfl,rfl⟩)
 |some a=>
  obtain⟨ab,ao,asp⟩:=a
  go_wp2_with (at_builtin;refine Lib.wpList_append_run _ rfl _ _ _ _ rfl _ _ rfl rfl _ _ hrun ?_)
  all_goals (go_ret;exact⟨rfl,rfl⟩)
set_option maxRecDepth 100000 in
theorem ins415_none (base:Option Addr) (n c i vc:Nat) (vb:Option Addr) (w:World) (hnc:n≤c) (hi:i≤n) (hnil:base=none→n=0) :
  Calls Tryz.prog 415 #[.slice base n c,.int .i64 i,.slice vb 0 vc] w fun e w1=>e=.returned (.slice base n c)∧w1=w:=by
 obtain⟨t0,t3,t4,a0,a3,a4,z0,z3,z4,v0,v3,v4,u0,u3,u4⟩:=insB
 obtain⟨t9,t24,a9,a24,z9,z24,v24,u24⟩:=insB415
 have mixed:Tryz.prog.follows .mixedOrders=true:=by kernel_rfl
 go_enter Tryz.func415,Tryz.ntmps415
 cases base with
 |none=>
  have h0:=hnil rfl
  subst h0
  have hi0:i=0:=by omega
  subst hi0
  go_wp2
  all_goals (go_ret;exact⟨rfl,rfl⟩)
 |some a=>
  obtain⟨ab,ao,asp⟩:=a
  go_wp2
  all_goals (go_ret;exact⟨rfl,rfl⟩)
set_option maxRecDepth 100000 in
theorem ins415_grow (b off n c i vb voff m vc:Nat) (cs vs:List Value) (w:World) (hi:i<n) (hm:0<m) (hnc:n≤c) (hroom:c<n+m) (hlim:n+m≤1073741824)
  (hcl:cs.length=n*17) (hvl:vs.length=m*17) (hbw:b<w.heap.size) (hvw:vb<w.heap.size)
  (hcs:∀j v,cs[j]?=some v→w.cell? ⟨b,off+j,none⟩=some v)
  (hvs:∀j v,vs[j]?=some v→w.cell? ⟨vb,voff+j,none⟩=some v) (h1c:∀v∈cs,v.oneCell'=true) (h1v:∀v∈vs,v.oneCell'=true) :
  Calls Tryz.prog 415 #[.slice (some ⟨b,off,none⟩) n c,.int .i64 i,.slice (some ⟨vb,voff,none⟩) m vc] w fun e w'=>
   ∃(G:Nat) (ROW:Array Value) (d1:Nat),n+m≤G∧(n+m)*17≤ROW.size∧ROW.size=G*17∧(∀(j:Nat) (v:Value),(cs.take (i*17))[j]?=some v→ROW[j]?=some v)∧e=.returned (.slice (some ⟨w.heap.size,0,none⟩) (n+m) G)∧
   w'=((({w with drawn:=d1}:World).alloc (.cells ROW 246)).setCells w.heap.size (i*17) vs).setCells w.heap.size ((i+m)*17) (cs.drop (i*17)):=by
 obtain⟨t0,t3,t4,a0,a3,a4,z0,z3,z4,v0,v3,v4,u0,u3,u4⟩:=insB
 obtain⟨t9,t24,a9,a24,z9,z24,v24,u24⟩:=insB415
 have mixed:Tryz.prog.follows .mixedOrders=true:=by kernel_rfl
 obtain⟨i0,hi0,hz0,hzs,hzb⟩:∃i0,Tryz.prog.info? 246=some i0∧i0.zero=some (Value.agg #[.int .i64 0,.int .i64 0,.string ⟨#[]⟩,.string ⟨#[]⟩,.int .i64 0,.slice none 0 0,.int .i64 0,.int .i64 0,.int .i64 0,.int .i64 0,.int .i64 0,.int .i64 0,.slice none 0 0,.int .i64 0,.int .i64 0,.int .i64 0,.int .i64 0])∧i0.size=17∧i0.bytes=184:=⟨_,rfl,rfl,rfl,rfl⟩
 have hz1:¬((m:Int)=0):=by omega
 have hz2:¬((i:Int)=(n:Int)):=by omega
 have hz3:(c:Int)<(n:Int)+(m:Int):=by omega
 obtain⟨G,ROW,hGn,hRl,hRs,hRt,hG63,hrz,hcpA,hcpB⟩:=ins_p2 t24 t3 i0 (Value.agg #[.int .i64 0,.int .i64 0,.string ⟨#[]⟩,.string ⟨#[]⟩,.int .i64 0,.slice none 0 0,.int .i64 0,.int .i64 0,.int .i64 0,.int .i64 0,.int .i64 0,.int .i64 0,.slice none 0 0,.int .i64 0,.int .i64 0,.int .i64 0,.int .i64 0]) hi0 hz0 hzs (by decide) (by rw[hzb];decide) (fun k=>by simp[Builtin.zeroCells,Value.cells]) b off n c i vb voff m vc cs vs w hi hm hnc hroom hlim hcl hvl hbw hvw hcs hvs h1c h1v
 have hGi:¬(G=i):=by omega
 have hGim:¬(G=i+m):=by omega
 have hci:¬(c=i):=by omega
 have hE1:∀x,((w.alloc (.cells ROW 246)).drew).cell? x=(w.drew.alloc (.cells ROW 246)).cell? x:=fun x=>rfl
 have hE2:∀x,((w.alloc (.cells ROW 246)).drew).frozen? x=(w.drew.alloc (.cells ROW 246)).frozen? x:=fun x=>rfl
 have hF1:∀x,(((w.alloc (.cells ROW 246)).drew.setCells w.heap.size (i*17) vs).drew).cell? x=((w.drew.alloc (.cells ROW 246)).setCells w.heap.size (i*17) vs).cell? x:=fun x=>rfl
 have hF2:∀x,(((w.alloc (.cells ROW 246)).drew.setCells w.heap.size (i*17) vs).drew).frozen? x=((w.drew.alloc (.cells ROW 246)).setCells w.heap.size (i*17) vs).frozen? x:=fun x=>rfl
 have hw1:IntKind.i64.wrap ((i:Int)+(m:Int))=(i:Int)+(m:Int):=by rw[IntKind.wrap_i64];omega
 have hb1:(0:Int)≤(i:Int)+(m:Int):=by omega
 have hin:i≤n:=by omega
 have htn:((i:Int)+(m:Int)).toNat=i+m:=by omega
 have hb3:(i:Int)≤(n:Int):=by omega
 go_enter Tryz.func415,Tryz.ntmps415
 go_wp2_with (first
  |(at_builtin;refine Lib.wpList_append_run _ rfl _ _ _ _ rfl _ _ rfl rfl _ _ (hrz _) ?_)
  |(at_builtin;refine wpList_copy_k _ rfl _ _ 105 105 rfl _ _ rfl rfl (hcpA _ hE1 hE2 _ _) ?_)
  |(at_builtin;refine wpList_copy_k _ rfl _ _ 105 105 rfl _ _ rfl rfl (hcpB _ (fun _=>rfl) (fun _=>rfl) _ _ _) ?_))
 go_region_law_o (refine step_copy_k rfl _ _ 105 105 rfl (.slice (some ⟨w.heap.size,(i+m)*17,none⟩) (n+m-(i+m)) (G-(i+m))) (.slice (some ⟨b,off+i*17,none⟩) (n-i) (c-i)) (by simp[Act.eval,Act.put]) (by simp[Act.eval,Act.put]) (hcpB _ hF1 hF2 3 (G-(i+m)) (c-i)) ?_)
 go_wp2
 go_ret
 exact⟨G,ROW,w.drew.drew.drawn,hGn,hRl,hRs,hRt,rfl,by first|rfl|(rw[drew_setK];rfl)|(simp only[drew_setK];rfl)⟩
theorem insC415:InsC Tryz.prog 415 17 105 246 where
 ent:=⟨Tryz.f415,Tryz.func415,by kernel_rfl,by kernel_rfl⟩
 hS:=Tryz.underlying105
 hz:=by kernel_rfl
 pos:=by decide
 info:=⟨_,(Value.agg #[.int .i64 0,.int .i64 0,.string ⟨#[]⟩,.string ⟨#[]⟩,.int .i64 0,.slice none 0 0,.int .i64 0,.int .i64 0,.int .i64 0,.int .i64 0,.int .i64 0,.int .i64 0,.slice none 0 0,.int .i64 0,.int .i64 0,.int .i64 0,.int .i64 0]),rfl,by decide,rfl,rfl⟩
 nothing:=fun base n c i vc vb w h1 h2 h3=>ins415_none base n c i vc vb w h1 h2 h3
 end_:=fun base n c m vc vb w w' q h1 h2 h3 h4 h5=>ins415_end base n c m vc vb w w' q h1 h2 h3 h4 h5
 shift:=fun b off n c i vb voff m vc cs vs w h1 h2 h3 h4 h5 h6 h7 h8 h9 h10 h11 h12 h13 tA tB kA kB h14 h15 h16=>ins415_shift b off n c i vb voff m vc cs vs w h1 h2 h3 h4 h5 h6 h7 h8 h9 h10 h11 h12 h13 tA tB kA kB h14 h15 h16
 grow:=fun b off n c i vb voff m vc cs vs w h1 h2 h3 h4 h5 h6 h7 h8 h9 h10 h11 h12 h13=>ins415_grow b off n c i vb voff m vc cs vs w h1 h2 h3 h4 h5 h6 h7 h8 h9 h10 h11 h12 h13
def insB424:=And.intro Tryz.underlying272 (And.intro Tryz.underlying243 (And.intro Tryz.isAgg272 (And.intro Tryz.isAgg243 (And.intro Tryz.sizeOf272 (And.intro Tryz.sizeOf243 (And.intro Tryz.zeroValue243 ((run_underlying Tryz.underlying243))))))))
set_option maxRecDepth 100000 in
theorem ins424_shift (b off n c i vb voff m vc:Nat) (cs vs:List Value) (w:World) (hi:i<n) (hm:0<m) (hroom:n+m≤c) (hlim:n+m≤1073741824) (hvb:vb≠b)
  (hcl:cs.length=n*2) (hvl:vs.length=m*2)
  (hcs:∀j v,cs[j]?=some v→w.cell? ⟨b,off+j,none⟩=some v) (hsp:∀j,j<(n+m)*2→(w.cell? ⟨b,off+j,none⟩).isSome=true) (hfz:∀j,w.frozen? ⟨b,j,none⟩=false)
  (hvs:∀j v,vs[j]?=some v→w.cell? ⟨vb,voff+j,none⟩=some v) (h1c:∀v∈cs,v.oneCell'=true) (h1v:∀v∈vs,v.oneCell'=true)
  (tA tB:TypeId) (kA kB:Nat) (hsa:w.shape? vb=some (tA,kA)) (hsb:w.shape? b=some (tB,kB)) (hkA:kA≠0) :
  Calls Tryz.prog 424 #[.slice (some ⟨b,off,none⟩) n c,.int .i64 i,.slice (some ⟨vb,voff,none⟩) m vc] w fun e w'=>
   e=.returned (.slice (some ⟨b,off,none⟩) (n+m) c)∧w'=(w.drew.setCells b (off+(i+m)*2) (cs.drop (i*2))).setCells b (off+i*2) vs:=by
 obtain⟨t0,t3,t4,a0,a3,a4,z0,z3,z4,v0,v3,v4,u0,u3,u4⟩:=insB
 obtain⟨t9,t24,a9,a24,z9,z24,v24,u24⟩:=insB424
 have hz1:¬((m:Int)=0):=by omega
 have hz2:¬((i:Int)=(n:Int)):=by omega
 have hsz:(Tryz.prog.info? 272).map (·.size)=some 2:=by kernel_rfl
 have hov:∀lb cb,(callFunc 439 #[.slice (some ⟨vb,voff,none⟩) m vc,.slice (some ⟨b,off+(i+m)*2,none⟩) lb cb]).run Tryz.prog w=.ok (.value (.bool false)) w:=fun lb cb=>by
  rw[run_callFunc_extern Tryz.func439 (by kernel_rfl) (by kernel_rfl) (by kernel_rfl) (e:=Extern.SlicesOverlaps.overlaps #[243,243] #[4]) (by kernel_rfl),
   run_overlaps_k w 243 4 272 t24 2 z9 ⟨vb,voff,none⟩ ⟨b,off+(i+m)*2,none⟩ m vc lb cb hvb tA tB kA kB hsa hsb hkA (hfz _) (hfz _)]
  rfl
 have mixed:Tryz.prog.follows .mixedOrders=true:=by kernel_rfl
 have hw1:IntKind.i64.wrap ((i:Int)+(m:Int))=(i:Int)+(m:Int):=by rw[IntKind.wrap_i64];omega
 have hb1:(0:Int)≤(i:Int)+(m:Int):=by omega
 have hin:i≤n:=by omega
 have htn:((i:Int)+(m:Int)).toNat=i+m:=by omega
 have hb2:¬(c=i+m):=by omega
 have hb3:(i:Int)≤(n:Int)+(m:Int):=by omega
 have hb4:¬(c=i):=by omega
 obtain⟨W1,hW1,hcp1,hcp2⟩:=ins_p1 t24 hsz b off n c i vb voff m vc cs vs w hi hm hvb hcl hvl hcs hsp hfz hvs h1c h1v
 go_enter Tryz.func424,Tryz.ntmps424
 go_wp2_with (simp only[hov])
 go_region_law_o (refine step_copy_k rfl _ _ 243 243 rfl _ _ (by simp[Act.eval,Act.put]) (by simp[Act.eval,Act.put]) (hcp1 _ _ _) ?_)
 go_wp2_with (at_builtin;refine wpList_copy_k _ rfl _ _ 243 243 rfl _ _ rfl rfl (hcp2 _ (fun _=>rfl) (fun _=>rfl) _ _) ?_)
 go_ret
 first|exact⟨rfl,rfl⟩|exact⟨rfl,by rw[hW1]⟩
set_option maxRecDepth 100000 in
theorem ins424_end (base:Option Addr) (n c m vc:Nat) (vb:Option Addr) (w w':World) (q:Value) (hm:0<m) (hnc:n≤c) (hlim:n+m≤1073741824) (hnil:base=none→n=0)
  (hrun:(Builtin.append_ #[243,243] 243 #[.slice base n c,.slice vb m vc]).run Tryz.prog w=.ok q w') :
  Calls Tryz.prog 424 #[.slice base n c,.int .i64 n,.slice vb m vc] w fun e w1=>e=.returned q∧w1=w':=by
 obtain⟨t0,t3,t4,a0,a3,a4,z0,z3,z4,v0,v3,v4,u0,u3,u4⟩:=insB
 obtain⟨t9,t24,a9,a24,z9,z24,v24,u24⟩:=insB424
 have mixed:Tryz.prog.follows .mixedOrders=true:=by kernel_rfl
 have hz1:¬((m:Int)=0):=by omega
 go_enter Tryz.func424,Tryz.ntmps424
 cases base with
 |none=>
  have h0:=hnil rfl
  subst h0
  go_wp2_with (at_builtin;refine Lib.wpList_append_run _ rfl _ _ _ _ rfl _ _ rfl rfl _ _ hrun ?_)
  all_goals (go_ret;exact⟨rfl,rfl⟩)
 |some a=>
  obtain⟨ab,ao,asp⟩:=a
  go_wp2_with (at_builtin;refine Lib.wpList_append_run _ rfl _ _ _ _ rfl _ _ rfl rfl _ _ hrun ?_)
  all_goals (go_ret;exact⟨rfl,rfl⟩)
set_option maxRecDepth 100000 in
theorem ins424_none (base:Option Addr) (n c i vc:Nat) (vb:Option Addr) (w:World) (hnc:n≤c) (hi:i≤n) (hnil:base=none→n=0) :
  Calls Tryz.prog 424 #[.slice base n c,.int .i64 i,.slice vb 0 vc] w fun e w1=>e=.returned (.slice base n c)∧w1=w:=by
 obtain⟨t0,t3,t4,a0,a3,a4,z0,z3,z4,v0,v3,v4,u0,u3,u4⟩:=insB
 obtain⟨t9,t24,a9,a24,z9,z24,v24,u24⟩:=insB424
 have mixed:Tryz.prog.follows .mixedOrders=true:=by kernel_rfl
 go_enter Tryz.func424,Tryz.ntmps424
 cases base with
 |none=>
  have h0:=hnil rfl
  subst h0
  have hi0:i=0:=by omega
  subst hi0
  go_wp2
  all_goals (go_ret;exact⟨rfl,rfl⟩)
 |some a=>
  obtain⟨ab,ao,asp⟩:=a
  go_wp2
  all_goals (go_ret;exact⟨rfl,rfl⟩)
set_option maxRecDepth 100000 in
theorem ins424_grow (b off n c i vb voff m vc:Nat) (cs vs:List Value) (w:World) (hi:i<n) (hm:0<m) (hnc:n≤c) (hroom:c<n+m) (hlim:n+m≤1073741824)
  (hcl:cs.length=n*2) (hvl:vs.length=m*2) (hbw:b<w.heap.size) (hvw:vb<w.heap.size)
  (hcs:∀j v,cs[j]?=some v→w.cell? ⟨b,off+j,none⟩=some v)
  (hvs:∀j v,vs[j]?=some v→w.cell? ⟨vb,voff+j,none⟩=some v) (h1c:∀v∈cs,v.oneCell'=true) (h1v:∀v∈vs,v.oneCell'=true) :
  Calls Tryz.prog 424 #[.slice (some ⟨b,off,none⟩) n c,.int .i64 i,.slice (some ⟨vb,voff,none⟩) m vc] w fun e w'=>
   ∃(G:Nat) (ROW:Array Value) (d1:Nat),n+m≤G∧(n+m)*2≤ROW.size∧ROW.size=G*2∧(∀(j:Nat) (v:Value),(cs.take (i*2))[j]?=some v→ROW[j]?=some v)∧e=.returned (.slice (some ⟨w.heap.size,0,none⟩) (n+m) G)∧
   w'=((({w with drawn:=d1}:World).alloc (.cells ROW 272)).setCells w.heap.size (i*2) vs).setCells w.heap.size ((i+m)*2) (cs.drop (i*2)):=by
 obtain⟨t0,t3,t4,a0,a3,a4,z0,z3,z4,v0,v3,v4,u0,u3,u4⟩:=insB
 obtain⟨t9,t24,a9,a24,z9,z24,v24,u24⟩:=insB424
 have mixed:Tryz.prog.follows .mixedOrders=true:=by kernel_rfl
 obtain⟨i0,hi0,hz0,hzs,hzb⟩:∃i0,Tryz.prog.info? 272=some i0∧i0.zero=some (Value.agg #[.string ⟨#[]⟩,.slice none 0 0])∧i0.size=2∧i0.bytes=40:=⟨_,rfl,rfl,rfl,rfl⟩
 have hz1:¬((m:Int)=0):=by omega
 have hz2:¬((i:Int)=(n:Int)):=by omega
 have hz3:(c:Int)<(n:Int)+(m:Int):=by omega
 obtain⟨G,ROW,hGn,hRl,hRs,hRt,hG63,hrz,hcpA,hcpB⟩:=ins_p2 t24 t3 i0 (Value.agg #[.string ⟨#[]⟩,.slice none 0 0]) hi0 hz0 hzs (by decide) (by rw[hzb];decide) (fun k=>by simp[Builtin.zeroCells,Value.cells]) b off n c i vb voff m vc cs vs w hi hm hnc hroom hlim hcl hvl hbw hvw hcs hvs h1c h1v
 have hGi:¬(G=i):=by omega
 have hGim:¬(G=i+m):=by omega
 have hci:¬(c=i):=by omega
 have hE1:∀x,((w.alloc (.cells ROW 272)).drew).cell? x=(w.drew.alloc (.cells ROW 272)).cell? x:=fun x=>rfl
 have hE2:∀x,((w.alloc (.cells ROW 272)).drew).frozen? x=(w.drew.alloc (.cells ROW 272)).frozen? x:=fun x=>rfl
 have hF1:∀x,(((w.alloc (.cells ROW 272)).drew.setCells w.heap.size (i*2) vs).drew).cell? x=((w.drew.alloc (.cells ROW 272)).setCells w.heap.size (i*2) vs).cell? x:=fun x=>rfl
 have hF2:∀x,(((w.alloc (.cells ROW 272)).drew.setCells w.heap.size (i*2) vs).drew).frozen? x=((w.drew.alloc (.cells ROW 272)).setCells w.heap.size (i*2) vs).frozen? x:=fun x=>rfl
 have hw1:IntKind.i64.wrap ((i:Int)+(m:Int))=(i:Int)+(m:Int):=by rw[IntKind.wrap_i64];omega
 have hb1:(0:Int)≤(i:Int)+(m:Int):=by omega
 have hin:i≤n:=by omega
 have htn:((i:Int)+(m:Int)).toNat=i+m:=by omega
 have hb3:(i:Int)≤(n:Int):=by omega
 go_enter Tryz.func424,Tryz.ntmps424
 go_wp2_with (first
  |(at_builtin;refine Lib.wpList_append_run _ rfl _ _ _ _ rfl _ _ rfl rfl _ _ (hrz _) ?_)
  |(at_builtin;refine wpList_copy_k _ rfl _ _ 243 243 rfl _ _ rfl rfl (hcpA _ hE1 hE2 _ _) ?_)
  |(at_builtin;refine wpList_copy_k _ rfl _ _ 243 243 rfl _ _ rfl rfl (hcpB _ (fun _=>rfl) (fun _=>rfl) _ _ _) ?_))
 go_region_law_o (refine step_copy_k rfl _ _ 243 243 rfl (.slice (some ⟨w.heap.size,(i+m)*2,none⟩) (n+m-(i+m)) (G-(i+m))) (.slice (some ⟨b,off+i*2,none⟩) (n-i) (c-i)) (by simp[Act.eval,Act.put]) (by simp[Act.eval,Act.put]) (hcpB _ hF1 hF2 3 (G-(i+m)) (c-i)) ?_)
 go_wp2
 go_ret
 exact⟨G,ROW,w.drew.drew.drawn,hGn,hRl,hRs,hRt,rfl,by first|rfl|(rw[drew_setK];rfl)|(simp only[drew_setK];rfl)⟩
theorem insC424:InsC Tryz.prog 424 2 243 272 where
 ent:=⟨Tryz.f424,Tryz.func424,by kernel_rfl,by kernel_rfl⟩
 hS:=Tryz.underlying243
 hz:=by kernel_rfl
 pos:=by decide
 info:=⟨_,(Value.agg #[.string ⟨#[]⟩,.slice none 0 0]),rfl,by decide,rfl,rfl⟩
 nothing:=fun base n c i vc vb w h1 h2 h3=>ins424_none base n c i vc vb w h1 h2 h3
 end_:=fun base n c m vc vb w w' q h1 h2 h3 h4 h5=>ins424_end base n c m vc vb w w' q h1 h2 h3 h4 h5
 shift:=fun b off n c i vb voff m vc cs vs w h1 h2 h3 h4 h5 h6 h7 h8 h9 h10 h11 h12 h13 tA tB kA kB h14 h15 h16=>ins424_shift b off n c i vb voff m vc cs vs w h1 h2 h3 h4 h5 h6 h7 h8 h9 h10 h11 h12 h13 tA tB kA kB h14 h15 h16
 grow:=fun b off n c i vb voff m vc cs vs w h1 h2 h3 h4 h5 h6 h7 h8 h9 h10 h11 h12 h13=>ins424_grow b off n c i vb voff m vc cs vs w h1 h2 h3 h4 h5 h6 h7 h8 h9 h10 h11 h12 h13
def insB426:=And.intro Tryz.underlying276 (And.intro Tryz.underlying244 (And.intro Tryz.isAgg276 (And.intro Tryz.isAgg244 (And.intro Tryz.sizeOf276 (And.intro Tryz.sizeOf244 (And.intro Tryz.zeroValue244 ((run_underlying Tryz.underlying244))))))))
set_option maxRecDepth 100000 in
theorem ins426_shift (b off n c i vb voff m vc:Nat) (cs vs:List Value) (w:World) (hi:i<n) (hm:0<m) (hroom:n+m≤c) (hlim:n+m≤1073741824) (hvb:vb≠b)
  (hcl:cs.length=n*11) (hvl:vs.length=m*11)
  (hcs:∀j v,cs[j]?=some v→w.cell? ⟨b,off+j,none⟩=some v) (hsp:∀j,j<(n+m)*11→(w.cell? ⟨b,off+j,none⟩).isSome=true) (hfz:∀j,w.frozen? ⟨b,j,none⟩=false)
  (hvs:∀j v,vs[j]?=some v→w.cell? ⟨vb,voff+j,none⟩=some v) (h1c:∀v∈cs,v.oneCell'=true) (h1v:∀v∈vs,v.oneCell'=true)
  (tA tB:TypeId) (kA kB:Nat) (hsa:w.shape? vb=some (tA,kA)) (hsb:w.shape? b=some (tB,kB)) (hkA:kA≠0) :
  Calls Tryz.prog 426 #[.slice (some ⟨b,off,none⟩) n c,.int .i64 i,.slice (some ⟨vb,voff,none⟩) m vc] w fun e w'=>
   e=.returned (.slice (some ⟨b,off,none⟩) (n+m) c)∧w'=(w.drew.setCells b (off+(i+m)*11) (cs.drop (i*11))).setCells b (off+i*11) vs:=by
 obtain⟨t0,t3,t4,a0,a3,a4,z0,z3,z4,v0,v3,v4,u0,u3,u4⟩:=insB
 obtain⟨t9,t24,a9,a24,z9,z24,v24,u24⟩:=insB426
 have hz1:¬((m:Int)=0):=by omega
 have hz2:¬((i:Int)=(n:Int)):=by omega
 have hsz:(Tryz.prog.info? 276).map (·.size)=some 11:=by kernel_rfl
 have hov:∀lb cb,(callFunc 441 #[.slice (some ⟨vb,voff,none⟩) m vc,.slice (some ⟨b,off+(i+m)*11,none⟩) lb cb]).run Tryz.prog w=.ok (.value (.bool false)) w:=fun lb cb=>by
  rw[run_callFunc_extern Tryz.func441 (by kernel_rfl) (by kernel_rfl) (by kernel_rfl) (e:=Extern.SlicesOverlaps.overlaps #[244,244] #[4]) (by kernel_rfl),
   run_overlaps_k w 244 4 276 t24 11 z9 ⟨vb,voff,none⟩ ⟨b,off+(i+m)*11,none⟩ m vc lb cb hvb tA tB kA kB hsa hsb hkA (hfz _) (hfz _)]
  rfl
 have mixed:Tryz.prog.follows .mixedOrders=true:=by kernel_rfl
 have hw1:IntKind.i64.wrap ((i:Int)+(m:Int))=(i:Int)+(m:Int):=by rw[IntKind.wrap_i64];omega
 have hb1:(0:Int)≤(i:Int)+(m:Int):=by omega
 have hin:i≤n:=by omega
 have htn:((i:Int)+(m:Int)).toNat=i+m:=by omega
 have hb2:¬(c=i+m):=by omega
 have hb3:(i:Int)≤(n:Int)+(m:Int):=by omega
 have hb4:¬(c=i):=by omega
 obtain⟨W1,hW1,hcp1,hcp2⟩:=ins_p1 t24 hsz b off n c i vb voff m vc cs vs w hi hm hvb hcl hvl hcs hsp hfz hvs h1c h1v
 go_enter Tryz.func426,Tryz.ntmps426
 go_wp2_with (simp only[hov])
 go_region_law_o (refine step_copy_k rfl _ _ 244 244 rfl _ _ (by simp[Act.eval,Act.put]) (by simp[Act.eval,Act.put]) (hcp1 _ _ _) ?_)
 go_wp2_with (at_builtin;refine wpList_copy_k _ rfl _ _ 244 244 rfl _ _ rfl rfl (hcp2 _ (fun _=>rfl) (fun _=>rfl) _ _) ?_)
 go_ret
 first|exact⟨rfl,rfl⟩|exact⟨rfl,by rw[hW1]⟩
set_option maxRecDepth 100000 in
theorem ins426_end (base:Option Addr) (n c m vc:Nat) (vb:Option Addr) (w w':World) (q:Value) (hm:0<m) (hnc:n≤c) (hlim:n+m≤1073741824) (hnil:base=none→n=0)
  (hrun:(Builtin.append_ #[244,244] 244 #[.slice base n c,.slice vb m vc]).run Tryz.prog w=.ok q w') :
  Calls Tryz.prog 426 #[.slice base n c,.int .i64 n,.slice vb m vc] w fun e w1=>e=.returned q∧w1=w':=by
 obtain⟨t0,t3,t4,a0,a3,a4,z0,z3,z4,v0,v3,v4,u0,u3,u4⟩:=insB
 obtain⟨t9,t24,a9,a24,z9,z24,v24,u24⟩:=insB426
 have mixed:Tryz.prog.follows .mixedOrders=true:=by kernel_rfl
 have hz1:¬((m:Int)=0):=by omega
 go_enter Tryz.func426,Tryz.ntmps426
 cases base with
 |none=>
  have h0:=hnil rfl
  subst h0
  go_wp2_with (at_builtin;refine Lib.wpList_append_run _ rfl _ _ _ _ rfl _ _ rfl rfl _ _ hrun ?_)
  all_goals (go_ret;exact⟨rfl,rfl⟩)
 |some a=>
  obtain⟨ab,ao,asp⟩:=a
  go_wp2_with (at_builtin;refine Lib.wpList_append_run _ rfl _ _ _ _ rfl _ _ rfl rfl _ _ hrun ?_)
  all_goals (go_ret;exact⟨rfl,rfl⟩)
set_option maxRecDepth 100000 in
theorem ins426_none (base:Option Addr) (n c i vc:Nat) (vb:Option Addr) (w:World) (hnc:n≤c) (hi:i≤n) (hnil:base=none→n=0) :
  Calls Tryz.prog 426 #[.slice base n c,.int .i64 i,.slice vb 0 vc] w fun e w1=>e=.returned (.slice base n c)∧w1=w:=by
 obtain⟨t0,t3,t4,a0,a3,a4,z0,z3,z4,v0,v3,v4,u0,u3,u4⟩:=insB
 obtain⟨t9,t24,a9,a24,z9,z24,v24,u24⟩:=insB426
 have mixed:Tryz.prog.follows .mixedOrders=true:=by kernel_rfl
 go_enter Tryz.func426,Tryz.ntmps426
 cases base with
 |none=>
  have h0:=hnil rfl
  subst h0
  have hi0:i=0:=by omega
  subst hi0
  go_wp2
  all_goals (go_ret;exact⟨rfl,rfl⟩)
 |some a=>
  obtain⟨ab,ao,asp⟩:=a
  go_wp2
  all_goals (go_ret;exact⟨rfl,rfl⟩)
set_option maxRecDepth 100000 in
theorem ins426_grow (b off n c i vb voff m vc:Nat) (cs vs:List Value) (w:World) (hi:i<n) (hm:0<m) (hnc:n≤c) (hroom:c<n+m) (hlim:n+m≤1073741824)
  (hcl:cs.length=n*11) (hvl:vs.length=m*11) (hbw:b<w.heap.size) (hvw:vb<w.heap.size)
  (hcs:∀j v,cs[j]?=some v→w.cell? ⟨b,off+j,none⟩=some v)
  (hvs:∀j v,vs[j]?=some v→w.cell? ⟨vb,voff+j,none⟩=some v) (h1c:∀v∈cs,v.oneCell'=true) (h1v:∀v∈vs,v.oneCell'=true) :
  Calls Tryz.prog 426 #[.slice (some ⟨b,off,none⟩) n c,.int .i64 i,.slice (some ⟨vb,voff,none⟩) m vc] w fun e w'=>
   ∃(G:Nat) (ROW:Array Value) (d1:Nat),n+m≤G∧(n+m)*11≤ROW.size∧ROW.size=G*11∧(∀(j:Nat) (v:Value),(cs.take (i*11))[j]?=some v→ROW[j]?=some v)∧e=.returned (.slice (some ⟨w.heap.size,0,none⟩) (n+m) G)∧
   w'=((({w with drawn:=d1}:World).alloc (.cells ROW 276)).setCells w.heap.size (i*11) vs).setCells w.heap.size ((i+m)*11) (cs.drop (i*11)):=by
 obtain⟨t0,t3,t4,a0,a3,a4,z0,z3,z4,v0,v3,v4,u0,u3,u4⟩:=insB
 obtain⟨t9,t24,a9,a24,z9,z24,v24,u24⟩:=insB426
 have mixed:Tryz.prog.follows .mixedOrders=true:=by kernel_rfl
 obtain⟨i0,hi0,hz0,hzs,hzb⟩:∃i0,Tryz.prog.info? 276=some i0∧i0.zero=some (Value.agg #[.int .i64 0,.int .i64 0,.int .i64 0,.int .i64 0,.int .i64 0,.int .i64 0,.bool false,.string ⟨#[]⟩,.slice none 0 0,.string ⟨#[]⟩,.bool false])∧i0.size=11∧i0.bytes=120:=⟨_,rfl,rfl,rfl,rfl⟩
 have hz1:¬((m:Int)=0):=by omega
 have hz2:¬((i:Int)=(n:Int)):=by omega
 have hz3:(c:Int)<(n:Int)+(m:Int):=by omega
 obtain⟨G,ROW,hGn,hRl,hRs,hRt,hG63,hrz,hcpA,hcpB⟩:=ins_p2 t24 t3 i0 (Value.agg #[.int .i64 0,.int .i64 0,.int .i64 0,.int .i64 0,.int .i64 0,.int .i64 0,.bool false,.string ⟨#[]⟩,.slice none 0 0,.string ⟨#[]⟩,.bool false]) hi0 hz0 hzs (by decide) (by rw[hzb];decide) (fun k=>by simp[Builtin.zeroCells,Value.cells]) b off n c i vb voff m vc cs vs w hi hm hnc hroom hlim hcl hvl hbw hvw hcs hvs h1c h1v
 have hGi:¬(G=i):=by omega
 have hGim:¬(G=i+m):=by omega
 have hci:¬(c=i):=by omega
 have hE1:∀x,((w.alloc (.cells ROW 276)).drew).cell? x=(w.drew.alloc (.cells ROW 276)).cell? x:=fun x=>rfl
 have hE2:∀x,((w.alloc (.cells ROW 276)).drew).frozen? x=(w.drew.alloc (.cells ROW 276)).frozen? x:=fun x=>rfl
 have hF1:∀x,(((w.alloc (.cells ROW 276)).drew.setCells w.heap.size (i*11) vs).drew).cell? x=((w.drew.alloc (.cells ROW 276)).setCells w.heap.size (i*11) vs).cell? x:=fun x=>rfl
 have hF2:∀x,(((w.alloc (.cells ROW 276)).drew.setCells w.heap.size (i*11) vs).drew).frozen? x=((w.drew.alloc (.cells ROW 276)).setCells w.heap.size (i*11) vs).frozen? x:=fun x=>rfl
 have hw1:IntKind.i64.wrap ((i:Int)+(m:Int))=(i:Int)+(m:Int):=by rw[IntKind.wrap_i64];omega
 have hb1:(0:Int)≤(i:Int)+(m:Int):=by omega
 have hin:i≤n:=by omega
 have htn:((i:Int)+(m:Int)).toNat=i+m:=by omega
 have hb3:(i:Int)≤(n:Int):=by omega
 go_enter Tryz.func426,Tryz.ntmps426
 go_wp2_with (first
  |(at_builtin;refine Lib.wpList_append_run _ rfl _ _ _ _ rfl _ _ rfl rfl _ _ (hrz _) ?_)
  |(at_builtin;refine wpList_copy_k _ rfl _ _ 244 244 rfl _ _ rfl rfl (hcpA _ hE1 hE2 _ _) ?_)
  |(at_builtin;refine wpList_copy_k _ rfl _ _ 244 244 rfl _ _ rfl rfl (hcpB _ (fun _=>rfl) (fun _=>rfl) _ _ _) ?_))
 go_region_law_o (refine step_copy_k rfl _ _ 244 244 rfl (.slice (some ⟨w.heap.size,(i+m)*11,none⟩) (n+m-(i+m)) (G-(i+m))) (.slice (some ⟨b,off+i*11,none⟩) (n-i) (c-i)) (by simp[Act.eval,Act.put]) (by simp[Act.eval,Act.put]) (hcpB _ hF1 hF2 3 (G-(i+m)) (c-i)) ?_)
 go_wp2
 go_ret
 exact⟨G,ROW,w.drew.drew.drawn,hGn,hRl,hRs,hRt,rfl,by first|rfl|(rw[drew_setK];rfl)|(simp only[drew_setK];rfl)⟩
theorem insC426:InsC Tryz.prog 426 11 244 276 where
 ent:=⟨Tryz.f426,Tryz.func426,by kernel_rfl,by kernel_rfl⟩
 hS:=Tryz.underlying244
 hz:=by kernel_rfl
 pos:=by decide
 info:=⟨_,(Value.agg #[.int .i64 0,.int .i64 0,.int .i64 0,.int .i64 0,.int .i64 0,.int .i64 0,.bool false,.string ⟨#[]⟩,.slice none 0 0,.string ⟨#[]⟩,.bool false]),rfl,by decide,rfl,rfl⟩
 nothing:=fun base n c i vc vb w h1 h2 h3=>ins426_none base n c i vc vb w h1 h2 h3
 end_:=fun base n c m vc vb w w' q h1 h2 h3 h4 h5=>ins426_end base n c m vc vb w w' q h1 h2 h3 h4 h5
 shift:=fun b off n c i vb voff m vc cs vs w h1 h2 h3 h4 h5 h6 h7 h8 h9 h10 h11 h12 h13 tA tB kA kB h14 h15 h16=>ins426_shift b off n c i vb voff m vc cs vs w h1 h2 h3 h4 h5 h6 h7 h8 h9 h10 h11 h12 h13 tA tB kA kB h14 h15 h16
 grow:=fun b off n c i vb voff m vc cs vs w h1 h2 h3 h4 h5 h6 h7 h8 h9 h10 h11 h12 h13=>ins426_grow b off n c i vb voff m vc cs vs w h1 h2 h3 h4 h5 h6 h7 h8 h9 h10 h11 h12 h13
end Sg
namespace Sg
open _root_.Go (IntKind BinOp UnOp)
variable {Pg:PgT}
theorem Ye {i n:Nat} (h:decide ((i:Int)<(n:Int))=true):i<n:=by simpa using h
theorem Ym {i n:Nat} (hi:i≤n) (h:decide ((i:Int)<(n:Int))=false):i=n:=by
 have:¬i<n:=by simpa using h
 omega
theorem Yi {i n:Nat} (h:i<n) (hn:n<2 ^ 60):IntKind.i64.wrap ((i:Int)+1)=((i+1:Nat):Int):=JiV (by omega) (by omega)
theorem Ycm {n:Nat} (h:0<n) (hn:n<2 ^ 60):IntKind.i64.wrap ((n:Int)-1)=((n-1:Nat):Int):=by rw[JiV (by omega) (by omega)];omega
theorem YB {α:Type} {l:List α} {i:Nat} {x:α} (h:l[i]?=some x):l.take (i+1)=l.take i++[x]:=by rw[Gap,h];rfl
theorem YaO {α:Type} {l:List α} {i:Nat} (h:i=l.length):l.take i=l:=by rw[h,Gy]
theorem YeA {n:Nat}:decide ((0:Int)<(n:Int))=!decide (n=0):=by cases n<;>simp
theorem YaV {n:Nat}:decide ((0:Int)<((n+1:Nat):Int))=true:=by simp
theorem led {a b:Nat}:decide ((a:Int)≤(b:Int))=decide (a≤b):=GM.2 (by omega)
end Sg
namespace Sg
open _root_.Go
theorem Ye9 (n a b c d:Nat):1≤(Lib.decodeN n a b c d).2∧(Lib.decodeN n a b c d).2≤4:=by
 unfold Lib.decodeN
 repeat' split
 all_goals simp
theorem Yh0 (l:List UInt8):1≤(dN l).2:=(Ye9 ..).1
def YcC:Nat→List UInt8→List Int
 |0,_=>[]
 |f+1,l=>if l=[] then [] else ((dN l).1:Int)::YcC f (l.drop (dN l).2)
def Yk (l:List UInt8):List Int:=YcC l.length l
theorem Ybd {l:List UInt8} (h:l≠[]):(l.drop (dN l).2).length<l.length:=by
 have:=Yh0 l;have:0<l.length:=Gam.2 h;rw[GU];omega
theorem Ydj:∀(f:Nat) (l:List UInt8),l.length≤f→YcC f l=Yk l
 |0,l,h=>by
  obtain rfl:l=[]:=GD (by omega)
  rfl
 |f+1,l,h=>by
  by_cases hl:l=[]
  ·subst hl;simp[YcC,Yk]
  ·have hd:=Ybd hl;have h1:=Ydj f (l.drop (dN l).2) (by omega);obtain⟨n,hn⟩:∃n,l.length=n+1:=⟨l.length-1,by omega⟩;have h2:YcC n (l.drop (dN l).2)=Yk (l.drop (dN l).2):=Ydj n _ (by omega);have e:Yk l=((dN l).1:Int)::YcC n (l.drop (dN l).2):=by
    rw[Yk,hn];simp only[YcC,hl,GN]
   rw[e,h2];simp only[YcC,hl,GN,h1]
 termination_by f=>f
theorem YaU:Yk []=[]:=rfl
theorem Y8 {l:List UInt8} (h:l≠[]):Yk l=((dN l).1:Int)::Yk (l.drop (dN l).2):=by
 have hd:=Ybd h;obtain⟨n,hn⟩:∃n,l.length=n+1:=⟨l.length-1,by omega⟩;rw[Yk,hn];simp only[YcC,h,GN];rw[Ydj n _ (by omega)]
theorem Ydk:∀(n:Nat) (l:List UInt8),l.length≤n→(Yk l).length≤l.length
 |0,l,h=>by
  obtain rfl:l=[]:=GD (by omega);simp[YaU]
 |n+1,l,h=>by
  by_cases hl:l=[]
  ·subst hl;simp[YaU]
  ·have hd:=Ybd hl;have:=Ydk n (l.drop (dN l).2) (by omega);rw[Y8 hl];simp only[List.length_cons];omega
theorem YcR:∀(f:Nat) (l:List UInt8),l.length≤f→keyAll f l=keyAll l.length l
 |0,l,h=>by
  obtain rfl:l=[]:=GD (by omega)
  rfl
 |f+1,l,h=>by
  by_cases hl:l=[]
  ·subst hl;simp[keyAll]
  ·have hd:=Ybd hl;have h1:=YcR f (l.drop (dN l).2) (by omega);obtain⟨n,hn⟩:∃n,l.length=n+1:=⟨l.length-1,by omega⟩;have h2:=YcR n (l.drop (dN l).2) (by omega);have e:keyAll l.length l=(plainR (dN l).1 (dN l).2&&keyAll n (l.drop (dN l).2)):=by
    rw[hn];simp only[keyAll,hl,GN]
   rw[e,h2];simp only[keyAll,hl,GN,h1]
 termination_by f=>f
theorem Yex {f:Nat}:keyAll f []=true:=by cases f<;>simp[keyAll]
theorem Yb5 {l:List UInt8} (h:l≠[]):keyAll l.length l=(plainR (dN l).1 (dN l).2&&keyAll (l.drop (dN l).2).length (l.drop (dN l).2)):=by
 have hd:=Ybd h;obtain⟨n,hn⟩:∃n,l.length=n+1:=⟨l.length-1,by omega⟩;rw[hn];simp only[keyAll,h,GN];rw[YcR n _ (by omega)]
def Y9:Int→List UInt8→Option Int
 |a,[]=>some a
 |a,b::l=>if b.toNat<128∨191<b.toNat then none else Y9 (64*a+b.toNat-128) l
def cls (a:Int):Nat×Int×Int:=
 if 194≤a∧a<224 then (2,128,a-192) else if 224≤a∧a<240 then (3,2048,a-224) else if 240≤a∧a<245 then (4,65536,a-240) else (0,0,a)
def Ybq (l:List UInt8):Int×Int:=
 match l with
 |[]=>(-1,1)
 |b::t=>if b.toNat<128 then ((b.toNat:Int),1) else
  if (cls b.toNat).1=0∨l.length<(cls b.toNat).1 then (-1,1) else
   match Y9 (cls b.toNat).2.2 (t.take ((cls b.toNat).1-1)) with
   |none=>(-1,1)
   |some v=>if v<(cls b.toNat).2.1∨1114111<v∨(55296≤v∧v<57344) then (-1,1) else (v,(cls b.toNat).1)
theorem YiN {n a b c d:Nat} (h:(128≤a∧a<194)∨(245≤a∧a<256)):Lib.decodeN n a b c d=(65533,1):=by
 unfold Lib.decodeN
 repeat' split
 all_goals first|(exfalso;omega)|rfl
theorem YgO {n a b c d:Nat} (h:194≤a∧a<224):Lib.decodeN n a b c d=if 1<n∧b / 64=2 then (a % 32*64+b % 64,2) else (65533,1):=by
 unfold Lib.decodeN
 repeat' split
 all_goals first|(exfalso;omega)|rfl
theorem YgP {n a b c d:Nat} (h:224≤a∧a<240):Lib.decodeN n a b c d=if (1<n∧b / 64=2)∧(2<n∧c / 64=2)∧2048≤a % 16*4096+b % 64*64+c % 64∧(a % 16*4096+b % 64*64+c % 64<55296∨57344≤a % 16*4096+b % 64*64+c % 64) then (a % 16*4096+b % 64*64+c % 64,3) else (65533,1):=by
 unfold Lib.decodeN
 repeat' split
 all_goals first|(exfalso;omega)|rfl
theorem Yfi {n a b c d:Nat} (h:240≤a∧a<245):Lib.decodeN n a b c d=if (1<n∧b / 64=2)∧(2<n∧c / 64=2)∧(3<n∧d / 64=2)∧65536≤a % 8*262144+b % 64*4096+c % 64*64+d % 64∧a % 8*262144+b % 64*4096+c % 64*64+d % 64≤1114111 then (a % 8*262144+b % 64*4096+c % 64*64+d % 64,4) else (65533,1):=by
 unfold Lib.decodeN
 repeat' split
 all_goals first|(exfalso;omega)|rfl
theorem YiO {n a b c d:Nat} (h:a<128):Lib.decodeN n a b c d=(a,1):=by
 unfold Lib.decodeN;rw[GB h]
theorem Ydc {b:UInt8}:(b.toNat<128∨191<b.toNat)↔¬b.toNat / 64=2:=by omega
theorem Yc4 {l:List UInt8} (h:l≠[]):Ybq l=if dN l=(65533,1) then (-1,1) else (((dN l).1:Int),((dN l).2:Int)):=by
 obtain⟨b0,t,rfl⟩:=List.exists_cons_of_ne_nil h;have l0:=b0.toNat_lt;have e0:(b0::t).getD 0 0=b0:=rfl;have e1:(b0::t).getD 1 0=t.getD 0 0:=rfl;have e2:(b0::t).getD 2 0=t.getD 1 0:=rfl;have e3:(b0::t).getD 3 0=t.getD 2 0:=rfl;simp only[Ybq,dN,e0,e1,e2,e3,List.length_cons];by_cases c1:b0.toNat<128
 ·rw[GB c1,YiO c1,Gv (by intro e;simp at e;omega)];rfl
 rw[Gv c1];by_cases c2:194≤b0.toNat∧b0.toNat<224
 ·rw[YgO c2,show cls b0.toNat=(2,128,(b0.toNat:Int)-192) from GB (by omega)]
  match t with
  |[]=>simp
  |b1::t=>
   have l1:=b1.toNat_lt;simp only[Gar,List.length_cons,List.take_succ_cons,List.take_zero,Y9,Ydc];by_cases d1:b1.toNat / 64=2
   ·have e:(1<t.length+1+1∧b1.toNat / 64=2):=⟨by omega,d1⟩;simp only[d1,e];simp
    repeat' split
    all_goals first|(exfalso;omega)|(simp;omega)|omega
   ·simp[d1]
 by_cases c3:224≤b0.toNat∧b0.toNat<240
 ·rw[YgP c3,show cls b0.toNat=(3,2048,(b0.toNat:Int)-224) from by rw[cls,Gv (by omega),GB (by omega)]]
  match t with
  |[]=>simp
  |[b1]=>simp
  |b1::b2::t=>
   have l1:=b1.toNat_lt;have l2:=b2.toNat_lt;simp only[Gar,List.getD_cons_succ,List.length_cons,List.take_succ_cons,List.take_zero,Y9,Ydc];by_cases d1:b1.toNat / 64=2
   ·by_cases d2:b2.toNat / 64=2
    ·have hv:64*(64*((b0.toNat:Int)-224)+b1.toNat-128)+b2.toNat-128=((b0.toNat % 16*4096+b1.toNat % 64*64+b2.toNat % 64:Nat):Int):=by omega
     have hn:¬(3=0∨t.length+1+1+1<3):=by omega
     simp only[d1,d2,not_true_eq_false,GN,hv,hn];obtain⟨v,hve,hvb⟩:∃v,b0.toNat % 16*4096+b1.toNat % 64*64+b2.toNat % 64=v∧v<65536:=⟨_,rfl,by omega⟩;rw[hve];by_cases c:2048≤v∧(v<55296∨57344≤v)
     ·have hD:(if (1<t.length+1+1+1∧True)∧(2<t.length+1+1+1∧True)∧2048≤v∧(v<55296∨57344≤v) then (v,3) else ((65533,1):Nat×Nat))=(v,3):=GB ⟨⟨by omega,Gs⟩,⟨by omega,Gs⟩,c.1,c.2⟩;rw[hD,Gv (by omega),Gv (by intro e;simp at e)]
     ·have hD:(if (1<t.length+1+1+1∧True)∧(2<t.length+1+1+1∧True)∧2048≤v∧(v<55296∨57344≤v) then (v,3) else ((65533,1):Nat×Nat))=(65533,1):=Gv (fun e=>c ⟨e.2.2.1,e.2.2.2⟩);rw[hD,GB (by omega),GB rfl]
    ·simp[d1,d2]
   ·simp[d1]
 by_cases c4:240≤b0.toNat∧b0.toNat<245
 ·rw[Yfi c4,show cls b0.toNat=(4,65536,(b0.toNat:Int)-240) from by rw[cls,Gv (by omega),Gv (by omega),GB (by omega)]]
  match t with
  |[]=>simp
  |[b1]=>simp
  |[b1,b2]=>simp
  |b1::b2::b3::t=>
   have l1:=b1.toNat_lt;have l2:=b2.toNat_lt;have l3:=b3.toNat_lt;simp only[Gar,List.getD_cons_succ,List.length_cons,List.take_succ_cons,List.take_zero,Y9,Ydc];by_cases d1:b1.toNat / 64=2
   ·by_cases d2:b2.toNat / 64=2
    ·by_cases d3:b3.toNat / 64=2
     ·have hv:64*(64*(64*((b0.toNat:Int)-240)+b1.toNat-128)+b2.toNat-128)+b3.toNat-128=((b0.toNat % 8*262144+b1.toNat % 64*4096+b2.toNat % 64*64+b3.toNat % 64:Nat):Int):=by omega
      have hn:¬(4=0∨t.length+1+1+1+1<4):=by omega
      simp only[d1,d2,d3,not_true_eq_false,GN,hv,hn];obtain⟨v,hve⟩:∃v,b0.toNat % 8*262144+b1.toNat % 64*4096+b2.toNat % 64*64+b3.toNat % 64=v:=⟨_,rfl⟩;rw[hve];by_cases c:65536≤v∧v≤1114111
      ·have hD:(if (1<t.length+1+1+1+1∧True)∧(2<t.length+1+1+1+1∧True)∧(3<t.length+1+1+1+1∧True)∧65536≤v∧v≤1114111 then (v,4) else ((65533,1):Nat×Nat))=(v,4):=GB ⟨⟨by omega,Gs⟩,⟨by omega,Gs⟩,⟨by omega,Gs⟩,c.1,c.2⟩;rw[hD,Gv (by omega),Gv (by intro e;simp at e)]
      ·have hD:(if (1<t.length+1+1+1+1∧True)∧(2<t.length+1+1+1+1∧True)∧(3<t.length+1+1+1+1∧True)∧65536≤v∧v≤1114111 then (v,4) else ((65533,1):Nat×Nat))=(65533,1):=Gv (fun e=>c ⟨e.2.2.2.1,e.2.2.2.2⟩);rw[hD,GB (by omega),GB rfl]
     ·simp[d1,d2,d3]
    ·simp[d1,d2]
   ·simp[d1]
 rw[YiN (by omega),show cls b0.toNat=(0,0,(b0.toNat:Int)) from by rw[cls,Gv (by omega),Gv (by omega),Gv (by omega)]];simp
theorem Ycx {l:List UInt8} (h:l≠[]):dN l=(65533,1)∨(∃b0 t,l=b0::t∧b0.toNat<128∧dN l=(b0.toNat,1))∨
  (∃b0 b1 t,l=b0::b1::t∧(194≤b0.toNat∧b0.toNat<224)∧b1.toNat / 64=2∧dN l=(b0.toNat % 32*64+b1.toNat % 64,2))∨
  (∃b0 b1 b2 t,l=b0::b1::b2::t∧(224≤b0.toNat∧b0.toNat<240)∧b1.toNat / 64=2∧b2.toNat / 64=2∧2048≤b0.toNat % 16*4096+b1.toNat % 64*64+b2.toNat % 64∧dN l=(b0.toNat % 16*4096+b1.toNat % 64*64+b2.toNat % 64,3))∨
  (∃b0 b1 b2 b3 t,l=b0::b1::b2::b3::t∧(240≤b0.toNat∧b0.toNat<245)∧b1.toNat / 64=2∧b2.toNat / 64=2∧b3.toNat / 64=2∧65536≤b0.toNat % 8*262144+b1.toNat % 64*4096+b2.toNat % 64*64+b3.toNat % 64∧dN l=(b0.toNat % 8*262144+b1.toNat % 64*4096+b2.toNat % 64*64+b3.toNat % 64,4)):=by
 obtain⟨b0,t,rfl⟩:=List.exists_cons_of_ne_nil h
 have l0:=b0.toNat_lt
 have e0:(b0::t).getD 0 0=b0:=rfl
 have e1:(b0::t).getD 1 0=t.getD 0 0:=rfl
 have e2:(b0::t).getD 2 0=t.getD 1 0:=rfl
 have e3:(b0::t).getD 3 0=t.getD 2 0:=rfl
 by_cases c1:b0.toNat<128
 ·exact .inr (.inl ⟨b0,t,rfl,c1,by rw[dN,e0,YiO c1]⟩)
 by_cases c2:194≤b0.toNat∧b0.toNat<224
 ·match t with
  |[]=>left;rw[dN,e0,YgO c2];simp
  |b1::t=>
   by_cases d:b1.toNat / 64=2
   ·exact .inr (.inr (.inl ⟨b0,b1,t,rfl,c2,d,by rw[dN,e0,YgO c2,GB ⟨by simp,by simpa [e1] using d⟩];rfl⟩))
   ·left;rw[dN,e0,YgO c2,Gv (fun e=>d (by simpa [e1] using e.2))]
 by_cases c3:224≤b0.toNat∧b0.toNat<240
 ·match t with
  |[]=>left;rw[dN,e0,YgP c3];simp
  |[b1]=>left;rw[dN,e0,YgP c3];simp
  |b1::b2::t=>
   have g1:(b0::b1::b2::t).getD 1 0=b1:=rfl
   have g2:(b0::b1::b2::t).getD 2 0=b2:=rfl
   rw[dN,e0,g1,g2,YgP c3]
   split
   ·rename_i hc
    exact .inr (.inr (.inr (.inl ⟨b0,b1,b2,t,rfl,c3,hc.1.2,hc.2.1.2,hc.2.2.1,rfl⟩)))
   ·exact .inl rfl
 by_cases c4:240≤b0.toNat∧b0.toNat<245
 ·match t with
  |[]=>left;rw[dN,e0,Yfi c4];simp
  |[b1]=>left;rw[dN,e0,Yfi c4];simp
  |[b1,b2]=>left;rw[dN,e0,Yfi c4];simp
  |b1::b2::b3::t=>
   have g1:(b0::b1::b2::b3::t).getD 1 0=b1:=rfl
   have g2:(b0::b1::b2::b3::t).getD 2 0=b2:=rfl
   have g3:(b0::b1::b2::b3::t).getD 3 0=b3:=rfl
   rw[dN,e0,g1,g2,g3,Yfi c4]
   split
   ·rename_i hc
    exact .inr (.inr (.inr (.inr ⟨b0,b1,b2,b3,t,rfl,c4,hc.1.2,hc.2.1.2,hc.2.2.1.2,hc.2.2.2.1,rfl⟩)))
   ·exact .inl rfl
 ·left;rw[dN,e0,YiN (by omega)]
def Yp:List Int→List Int→Int
 |[],[]=>0
 |[],_::_=>-1
 |_::_,[]=>1
 |a::l,b::k=>if a<b then -1 else if b<a then 1 else Yp l k
theorem Yd4:∀(a b:List Int),Yp a b=-1∨Yp a b=0∨Yp a b=1
 |[],[]=>by simp[Yp]
 |[],_::_=>by simp[Yp]
 |_::_,[]=>by simp[Yp]
 |a::l,b::k=>by
  simp only[Yp];split
  ·simp
  ·split
   ·simp
   ·exact Yd4 l k
theorem Ybi:∀(a b:List Int),Yp b a=- Yp a b
 |[],[]=>by simp[Yp]
 |[],_::_=>by simp[Yp]
 |_::_,[]=>by simp[Yp]
 |a::l,b::k=>by
  simp only[Yp];have:=Ybi l k
  repeat' split
  all_goals omega
theorem Yby {a b:Int} {l k:List Int} (h:a<b):Yp (a::l) (b::k)=-1:=by simp[Yp,h]
theorem Yb3 {a b:Int} {l k:List Int} (h:b<a):Yp (a::l) (b::k)=1:=by
 have:¬a<b:=by omega
 simp[Yp,h,this]
theorem Yb2 {a:Int} {l k:List Int}:Yp (a::l) (a::k)=Yp l k:=by simp[Yp]
theorem YdJ:∀(a b c:List Int),Yp a b≤0→Yp b c≤0→Yp a c≤0∧(Yp a b<0∨Yp b c<0→Yp a c<0)
 |[],[],c,h1,h2=>by
  have:Yp [] []=0:=rfl;omega
 |[],_::_,[],h1,h2=>by simp[Yp] at h2
 |[],_::_,_::_,h1,h2=>by simp[Yp]
 |_::_,[],_,h1,h2=>by simp[Yp] at h1
 |a::l,b::k,[],h1,h2=>by simp[Yp] at h2
 |a::l,b::k,c::m,h1,h2=>by
  have ih:=YdJ l k m;rcases Int.lt_trichotomy a b with p|p|p
  ·rw[Yby p] at h1 ⊢;rcases Int.lt_trichotomy b c with q|q|q
   ·rw[Yby (show a<c by omega)];omega
   ·rw[Yby (show a<c by omega)];omega
   ·rw[Yb3 q] at h2;omega
  ·subst p;rw[Yb2] at h1 ⊢;rcases Int.lt_trichotomy a c with q|q|q
   ·rw[Yby q];omega
   ·subst q;rw[Yb2] at h2 ⊢;rw[Yb2];exact ih h1 h2
   ·rw[Yb3 q] at h2;omega
  ·rw[Yb3 p] at h1;omega
end Sg
