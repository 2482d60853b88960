/- ShellParses, at every input: proved over a checked abstract run of the translated code; no condition. A part. -/
import Derived.Test.YthppemaclcgpjaaGreatDoorChecked
import Derived.Lib.LaidU8
import Derived.Lib.LaidTab
import Derived.Shelf.Strconv.Itoa3
import Derived.Lib.OthersKept
import Derived.Laws.RangeAny
import Derived.WalkKit
import Derived.BigCall
import Derived.Lib.AtoiAll
import Derived.Lib.ItoaNum
import Derived.Test.YthppemaclcgpjaaGreatDoorG3
set_option linter.unusedSimpArgs false
set_option linter.unusedVariables false
set_option linter.constructorNameAsVariable false
set_option linter.defProp false
set_option maxRecDepth 10000
set_option maxHeartbeats 4000000
namespace Sg
abbrev PgT:=Nat→Option Fn
theorem inc64q {i:Nat} (h:i<9223372036854775807):_root_.Go.IntKind.i64.wrap ((i:Int)+1)=((i+1:Nat):Int):=by rw[JmB (by omega) (by omega)];omega
end Sg
namespace Sg
def look {α:Type}:List (Nat×α)→Nat→Option α
 |[],_=>none
 |(k,a)::l,n=>if k=n then some a else look l n
def plQ:Option Nat→Bool
 |some j=>decide (j<3000)
 |none=>true
def rfQ (F:F) (j:Nat):Bool:=F.own.isNone&&nsC j F.body&&decide (j<1000)
def okTab (P:Go.Program) (cx:Cx) (tab:List (Nat×Fn)):List (Nat×Fn)→Bool
 |[]=>true
 |(k,.code F)::l=>okF P cx (look tab) (cx.fm k) F&&okTab P cx tab l
 |(k,.codeR F j)::l=>okF P cx (look tab) (cx.fm k) F&&rfQ F j&&okTab P cx tab l
 |(_,.prim o _)::l=>plQ o&&okTab P cx tab l
theorem look_mem {α:Type}:∀{l:List (Nat×α)} {n:Nat} {a:α},look l n=some a→(n,a)∈l
 |(k,b)::l,n,a,h=>by
  simp only[look] at h;split at h
  ·rename_i e;subst e;simp only[Ga] at h;subst h;exact GZ
  ·exact GF _ (look_mem h)
 |[],n,a,h=>by simp[look] at h
def fnQ (P:Go.Program) (cx:Cx) (tab:List (Nat×Fn)) (k:Nat):Fn→Prop
 |.code F=>okF P cx (look tab) (cx.fm k) F=true
 |.codeR F j=>okF P cx (look tab) (cx.fm k) F=true∧rfQ F j=true
 |.prim o _=>plQ o=true
theorem Y0 {P:Go.Program} {cx:Cx} {tab:List (Nat×Fn)}:∀{l:List (Nat×Fn)},okTab P cx tab l=true→∀k f,(k,f)∈l→fnQ P cx tab k f
 |(k',g)::l,h,k,f,hm=>by
  have h2:fnQ P cx tab k' g∧okTab P cx tab l=true:=by
   cases g<;>simp only[okTab,Gg] at h
   ·exact h
   ·exact h
   ·exact⟨h.1,h.2⟩
  simp only[GM,Gf] at hm;rcases hm with ⟨rfl,rfl⟩|hm
  ·exact h2.1
  ·exact Y0 h2.2 k f hm
 |[],h,k,f,hm=>by simp at hm
theorem tab_sound {P:Go.Program} {cx:Cx} {tab:List (Nat×Fn)} (hm:P.follows .mixedOrders=true) (hok:okTab P cx tab tab=true)
  (hprim:∀f own p,look tab f=some (.prim own p)→∀args r,p args=some r→Ctr P cx own f args r)
  (hins:∀f z p,z<1000→look tab f=some (.prim (some (1000+z)) p)→∃tS el,InsC P (cx.fm f) z tS el) (hdel:∀f z p,look tab f=some (.prim (some (2000+z)) p)→DelC P (cx.fm f) z)
  (n f:Nat) (args:List V) (r:V) (h:Jw (look tab) n f args=some r):Ctr P cx (ownOf (look tab) f) f args r:=
 (Jan hm (fun f F hf=>Y0 hok f _ (look_mem hf)) hprim hins hdel (fun f F k hf=>by
  have h1:fnQ P cx tab f (.codeR F k):=Y0 hok f _ (look_mem hf);have h2:=h1.2;simp only[rfQ,Gg,G2] at h2;exact⟨h1.1,h2.1.1,h2.1.2⟩) (fun f own p hf k hk ho=>by
  have h1:fnQ P cx tab f (.prim own p):=Y0 hok f _ (look_mem hf);subst ho;simp only[fnQ,plQ,Gz] at h1;omega) n f args r h).1
end Sg
namespace Sg
open _root_.Go (IntKind BinOp UnOp)
@[go_sem] abbrev z_0 : List V := [.str [],.str [],.int .i64 0,.int .i64 0,.int .i64 0]
@[go_sem] abbrev z_1 : List V := [.str [],.str []]
@[go_sem] abbrev z_2 : List V := [.int .i64 0,.int .i64 0,.int .i64 0,.bool false,.str []]
@[go_sem] abbrev z_3 : List V := [.int .i64 0,.int .i64 0,.int .i64 0]
@[go_sem] abbrev z_4 : List V := [.int .i64 0,.int .i64 0,.int .i64 0,.int .i64 0,.int .i64 0,.int .i64 0,.bool false,.str [],.slice 2 [],.str [],.bool false]
@[go_sem] abbrev z_5 : List V := [.int .i64 0,.int .i64 0,.slice 1 [],.int .i64 0,.str [],.str [],.slice 1 []]
@[go_sem] abbrev z_6 : List V := [.int .i64 0,.int .i64 0,.int .i64 0,.int .i64 0,.int .i64 0,.slice 1 [],.str []]
@[go_sem] abbrev z_7 : List V := [.str [],.slice 5 []]
@[go_sem] abbrev z_8 : List V := [.slice 17 [],.int .i64 0,.int .i64 0,.int .i64 0,.int .i64 0]
@[go_sem] abbrev z_9 : List V := [.int .i64 0,.int .i64 0,.int .i64 0,.int .i64 0,.bool false,.str [],.slice 2 [],.str [],.bool false]
@[go_sem] abbrev z_10 : List V := [.int .i64 0,.int .i64 0,.str [],.str [],.int .i64 0,.slice 2 [],.int .i64 0,.int .i64 0,.int .i64 0,.int .i64 0,.int .i64 0,.int .i64 0,.slice 11 [],.int .i64 0,.int .i64 0,.int .i64 0,.int .i64 0]
@[go_sem] abbrev z_11 : List V := [.int .i64 0,.int .i64 0,.int .i64 0,.int .i64 0,.int .i64 0]
@[go_sem] abbrev z_12 : List V := [.int .i64 0,.slice 1 [],.bool false]
@[go_sem] abbrev z_13 : List V := [.slice 5 [],.slice 3 [],.int .i64 0,.slice 5 [],.slice 3 [],.int .i64 0,.int .i64 0,.int .i64 0,.int .i64 0,.int .i64 0,.int .i64 0,.int .i64 0,.int .i64 0,.int .i64 0,.int .i64 0,.int .i64 0,.str [],.slice 1 [],.int .i64 0,.int .i64 0,.int .i64 0,.str [],.str [],.slice 1 [],.int .i64 0,.int .i64 0,.int .i64 0,.slice 1 [],.slice 7 []]
@[go_sem] abbrev z_14 : List V := [.slice 5 [],.nslice 3,.int .i64 0,.slice 5 [],.slice 3 [],.int .i64 0,.int .i64 0,.int .i64 0,.int .i64 0,.int .i64 0,.int .i64 0,.int .i64 0,.int .i64 0,.int .i64 0,.int .i64 0,.int .i64 0,.str [],.slice 1 [],.int .i64 0,.int .i64 0,.int .i64 0,.str [],.str [],.slice 1 [],.int .i64 0,.int .i64 0,.int .i64 0,.slice 1 [],.slice 7 []]
@[go_sem] abbrev z_15 : List V := [.int .i64 0,.int .i64 0,.int .i64 0,.int .i64 0,.int .i64 0,.int .i64 0,.int .i64 0]
@[go_sem] abbrev z_16 : List V := [.int .i64 0,.int .i64 0,.int .i64 0,.int .i64 0,.int .i64 0,.int .i64 0,.int .i64 0,.int .i64 0,.int .i64 0,.int .i64 0,.int .i64 0,.int .i64 0,.str [],.int .i64 0,.int .i64 0,.int .i64 0,.str [],.str [],.bool false,.str [],.int .i64 0,.int .i64 0,.int .i64 0,.str [],.int .i64 0,.int .i64 0,.int .i64 0,.int .i64 0,.int .i64 0,.bool false,.str [],.slice 2 [],.str [],.bool false,.slice 5 [],.slice 1 []]
@[go_sem] abbrev z_17 : List V := [.int .i64 0,.int .i64 0,.int .i64 0,.int .i64 0,.int .i64 0,.int .i64 0,.int .i64 0,.int .i64 0,.int .i64 0,.int .i64 0,.int .i64 0,.int .i64 0,.str [],.int .i64 0,.int .i64 0,.int .i64 0,.str [],.str [],.bool false,.str [],.int .i64 0,.int .i64 0,.int .i64 0,.str [],.int .i64 0,.int .i64 0,.int .i64 0,.int .i64 0,.int .i64 0,.bool false,.str [],.slice 2 [],.str [],.bool false,.slice 5 [],.nslice 1]
@[go_sem] abbrev z_18 : List V := [.int .i64 0,.int .i64 0,.int .i64 0,.int .i64 0,.int .i64 0,.int .i64 0,.int .i64 0,.int .i64 0,.str [],.slice 1 [],.int .i64 0,.int .i64 0,.int .i64 0,.str [],.str [],.slice 1 [],.int .i64 0,.int .i64 0,.int .i64 0,.slice 1 []]
@[go_sem] abbrev z_19 : List V := [.int .i64 0,.int .i64 0,.int .i64 0,.slice 1 [],.int .i64 0,.str [],.str [],.slice 1 [],.slice 36 []]
@[go_sem] abbrev z_20 : List V := [.int .i64 0,.slice 9 []]
@[go_sem] abbrev z_21 : List V := [.int .i64 0,.nslice 9]
@[go_sem] abbrev z_22 : List V := [.str [],.bool false]
@[go_sem] abbrev z_23 : List V := [.nslice 17,.int .i64 0,.int .i64 0,.int .i64 0,.int .i64 0]
@[go_sem] abbrev z_24 : List V := [.int .i64 0,.int .i64 0,.int .i64 0,.str [],.str [],.bool false,.str [],.int .i64 0,.int .i64 0,.int .i64 0,.str [],.int .i64 0]
@[go_sem] abbrev z_25 : List V := [.str [],.nslice 5]
@[go_sem] abbrev z_26 : List V := [.int .i64 0,.int .i64 0,.str [],.str [],.int .i64 0,.nslice 2,.int .i64 0,.int .i64 0,.int .i64 0,.int .i64 0,.int .i64 0,.int .i64 0,.nslice 11,.int .i64 0,.int .i64 0,.int .i64 0,.int .i64 0]
@[go_sem] abbrev z_27 : List V := [.str [],.str [],.int .i64 0,.bool false,.bool false]
@[go_sem] abbrev z_28 : List V := [.int .i64 0,.str [],.str [],.int .i64 0,.bool false,.bool false,.int .i64 0,.slice 9 [],.slice 5 [],.slice 3 [],.int .i64 0,.slice 5 [],.slice 3 [],.int .i64 0,.int .i64 0,.int .i64 0,.int .i64 0,.int .i64 0,.int .i64 0,.int .i64 0,.int .i64 0,.int .i64 0,.int .i64 0,.int .i64 0,.str [],.slice 1 [],.int .i64 0,.int .i64 0,.int .i64 0,.str [],.str [],.slice 1 [],.int .i64 0,.int .i64 0,.int .i64 0,.slice 1 [],.slice 7 [],.bool false]
@[go_sem] abbrev z_29 : List V := [.int .i64 0,.int .i64 0,.int .i64 0,.int .i64 0,.int .i64 0,.int .i64 0,.int .i64 0,.int .i64 0,.int .i64 0,.int .i64 0,.int .i64 0,.int .i64 0,.str [],.int .i64 0,.int .i64 0,.int .i64 0,.str [],.str [],.bool false,.str [],.int .i64 0,.int .i64 0,.int .i64 0,.str [],.int .i64 0,.int .i64 0,.int .i64 0,.int .i64 0,.int .i64 0,.bool false,.str [],.slice 2 [],.str [],.bool false,.nslice 5,.nslice 1]
@[go_sem] abbrev z_30 : List V := [.int .i64 0,.int .i64 0,.int .i64 0,.int .i64 0,.bool false,.str [],.nslice 2,.str [],.bool false]
@[go_sem] abbrev z_31 : List V := [.int .i64 0,.int .i64 0,.slice 5 [],.slice 1 [],.int .i64 0,.int .i64 0,.int .i64 0,.str [],.str [],.bool false,.str [],.int .i64 0,.int .i64 0,.int .i64 0,.str [],.int .i64 0,.bool false,.int .i64 0]
@[go_sem] abbrev z_32 : List V := [.slice 38 [],.slice 18 [],.slice 1 [],.slice 1 []]
@[go_sem] abbrev z_33 : List V := [.nslice 38,.nslice 18,.slice 1 [],.slice 1 []]
@[go_sem] abbrev z_34 : List V := [.bool false,.int .i64 0,.int .i64 0,.int .i64 0,.str [],.str [],.bool false,.str [],.int .i64 0,.int .i64 0,.int .i64 0,.str [],.int .i64 0,.bool false,.int .i64 0,.int .i64 0,.int .i64 0,.int .i64 0,.bool false,.str [],.slice 2 [],.str [],.bool false,.int .i64 0]
@[go_sem] abbrev z_35 : List V := [.int .i64 0,.bool false,.int .i64 0,.int .i64 0,.int .i64 0,.str [],.str [],.bool false,.str [],.int .i64 0,.int .i64 0,.int .i64 0,.str [],.int .i64 0,.bool false,.int .i64 0,.int .i64 0,.int .i64 0,.int .i64 0,.bool false,.str [],.slice 2 [],.str [],.bool false,.int .i64 0]
@[go_sem] abbrev z_36 : List V := [.int .i64 0,.int .i64 0,.int .i64 0,.int .i64 0,.int .i64 0,.int .i64 0,.str [],.str [],.bool false,.str [],.int .i64 0,.int .i64 0,.int .i64 0,.str [],.int .i64 0,.int .i64 0,.int .i64 0,.int .i64 0,.int .i64 0,.str [],.slice 1 []]
@[go_sem] abbrev z_37 : List V := [.slice 1 [],.bool false]
@[go_sem] abbrev z_38 : List V := [.int .i64 0,.int .i64 0,.int .i64 0,.int .i64 0,.int .i64 0,.int .i64 0]
@[go_sem] abbrev z_39 : List V := [.str [],.str [],.str [],.str [],.str [],.str []]
@[go_sem] abbrev z_40 : List V := [.int .i64 0,.int .i64 0,.int .i64 0,.int .i64 0,.str [],.slice 1 []]
@[go_sem] abbrev z_41 : List V := [.int .i64 0,.int .i64 0,.int .i64 0,.int .i64 0,.str [],.nslice 1]
@[go_sem] abbrev z_42 : List V := [.int .i64 0,.int .i64 0,.int .i64 0,.int .i64 0,.int .i64 0,.int .i64 0,.str [],.str [],.bool false,.str [],.int .i64 0,.int .i64 0,.int .i64 0,.str [],.int .i64 0,.int .i64 0,.int .i64 0,.int .i64 0,.int .i64 0,.str [],.nslice 1]
def l141_0 : C := .loop [] [] [5] [] (rs 12 (q3 (.bin .lss (.g 11) (.g 10))<|qe) <| sq (cd 12 .skip <| .exit 0) <| sq (bk 1 (rs 13 (qm 11<|q1 (.iad 5 (.g 9) (.g 11))<|qJ 5<|qG 5 z_0<|qV 4 0<|qs 5 5 3 2<|qe) <| i1 16 (qr 5 2<|qc 162<|qn<|yo<|qr 5 4<|qc 162<|qn<|zo 4<|yo<|qr 5 3<|qc 163<|qn<|zO 10<|qe) 31 (rs 0 (qF 2<|qe) .ret) <| i1 32 (qm 0<|qm 4<|q1 (.sl false 5 (.l 0) none (some (.l 1)))<|q1 (.fn 164 [.g 5] [5])<|q3 (.call (.k 165) .no none [.l 2,.l 3])<|qe) 36 (rs 0 (qF 2<|qe) .ret) <| r1 37 (qm 3<|qR 5 0 2<|q1 (.mks 2 1 z_1 [(0,.l 2)])<|q1 (.app 3 2 (.l 0) (.l 3))<|qv 3<|qe))) <| r1 42 (q1 (.bin .add (.g 11) (ci 1))<|qv 11<|qe))
def c141 : C := rs 0 (qF 2<|qe) <| i1 6 (qm 0<|qh false<|qK .gtr 8<|qe) 8 (rs 0 (qF 2<|qe) .ret) <| rs 3 (q3 (.mko 2)<|qe) <| sq (rs 9 (q3 (.mov (.g 0))<|qH false<|q3 (.mov (ci 0))<|qe) <| bk 0 l141_0) <| rs 43 (qm 3<|q1 (.call (.k 166) .borrow none [.l 0])<|qv 2<|qe) .ret
def F141 : F := mF 1 [.t 2] none c141
attribute [go_sem] c141 F141
def l144_0 : C := .loop [] [] [7] [] (rs 24 (q3 (.bin .lss (.g 23) (.g 22))<|qe) <| sq (cd 24 .skip <| .exit 0) <| sq (bk 1 (rs 25 (q1 (.iad 5 (.g 21) (.g 23))<|qJ 5<|qG 7 z_0<|qs 7 5 2 1<|qe) <| rs 27 (qm 1<|q1 (.bin .eql (.l 0) (.c (.str [])))<|yo<|qR 7 0 2<|qm 1<|qd 171<|zO 2<|qe) <| cd 34 (rs 35 (qb 7 5<|qt 4 5 0<|qT 5<|qe) .ret) .skip)) <| r1 36 (q1 (.bin .add (.g 23) (ci 1))<|qv 23<|qe))
def c144 : C := rs 0 (qG 4 z_0<|qF 5<|qe) <| i1 8 (qm 0<|qc 141<|qn<|yo<|qm 1<|q1 (.bin .neq (.l 4) (.c (.str [])))<|ya<|qm 1<|qc 170<|qn<|y0 3<|qa 6<|zO 3<|qe) 19 (rs 20 (q1 (.build z_0 [])<|qt 4 5 0<|qF 5<|qe) .ret) <| sq (rs 21 (q3 (.mov (.g 0))<|qH false<|q3 (.mov (ci 0))<|qe) <| bk 0 l144_0) <| rs 37 (q1 (.build z_0 [])<|qt 4 5 0<|qF 5<|qe) .ret
def F144 : F := mF 2 [.cell 4 (some 5),.t 5] none c144
attribute [go_sem] c144 F144
def c154 : C := rs 0 (qS 0 5<|qe) <| rs 1 (q1 (.build z_0 [(2,1,.c (.int .i64 1)),(3,1,.c (.int .i64 1)),(4,1,.c (.int .i64 1))])<|q1 (.mks 5 1 z_0 [(0,.l 0)])<|qv 0<|qe) .ret
def F154 : F := mF 0 [.t 0] none c154
attribute [go_sem] c154 F154
def c162 : C := rs 0 (qF 2<|qe) <| rs 3 (qm 0<|qk .geq 1<|ya<|qm 0<|qk .leq 1099511627776<|za 2<|qv 2<|qe) .ret
def F162 : F := mF 1 [.t 2] none c162
attribute [go_sem] c162 F162
def c163 : C := rs 0 (qF 2<|qe) <| rs 3 (qm 0<|qk .geq 1<|ya<|qm 0<|qk .leq 3<|za 2<|qv 2<|qe) .ret
def F163 : F := mF 1 [.t 2] none c163
attribute [go_sem] c163 F163
def c165 : C := rs 0 (qF 4<|qe) <| rs 5 (qm 0<|qm 1<|qd 185<|qk .geq 0<|qv 4<|qe) .ret
def F165 : F := mF 2 [.t 4] none c165
attribute [go_sem] c165 F165
def l166_0 : C := .loop [] [] [5] [] (rs 9 (q3 (.bin .lss (.g 8) (.g 7))<|qe) <| sq (cd 9 .skip <| .exit 0) <| sq (bk 1 (rs 10 (qm 8<|q1 (.iad 2 (.g 6) (.g 8))<|qJ 2<|qG 5 z_1<|qV 4 0<|qs 5 2 3 2<|qe) <| i1 13 (qb 5 2<|qc 186<|qn<|yo<|qr 5 0<|qm 3<|qq .neq 5<|zo 3<|yo<|qm 4<|qk .gtr 0<|ya<|qm 3<|q1 (.bin .eql (.l 13) (.c (.str [])))<|y0 9<|qa 12<|zO 9<|qe) 29 (rs 0 (qF 2<|qe) .ret) <| r1 30 (qr 5 1<|qv 3<|qe))) <| r1 32 (q1 (.bin .add (.g 8) (ci 1))<|qv 8<|qe))
def c166 : C := rs 0 (qF 2<|qe) <| rs 0 (qE 3<|qe) <| sq (rs 6 (q3 (.mov (.g 0))<|qH false<|q3 (.mov (ci 0))<|qe) <| bk 0 l166_0) <| rs 33 (qm 0<|qh false<|qk .gtr 0<|ya<|qm 3<|q1 (.bin .eql (.l 4) (.c (.str [])))<|za 3<|qv 2<|qe) .ret
def F166 : F := mF 1 [.t 2] none c166
attribute [go_sem] c166 F166
def c171 : C := rs 0 (qB 2 0<|qF 4<|qe) <| rs 5 (qb 2 2<|qc 186<|ya<|qm 1<|qc 170<|za 2<|ya<|qr 2 0<|qm 1<|qd 192<|qk .leq 0<|za 6<|ya<|qr 2 1<|q1 (.bin .eql (.l 15) (.c (.str [])))<|yo<|qm 1<|qr 2 1<|qC 192 (ls [18,20])<|qk .lss 0<|y1 13<|qo 17<|za 13<|qv 4<|qe) .ret
def F171 : F := mF 2 [.t 4] none c171
attribute [go_sem] c171 F171
def l185_0 : C := .loop [] [] [] [] (rs 9 (q3 (.bin .lss (.g 8) (.g 7))<|qe) <| sq (cd 9 .skip <| .exit 0) <| sq (bk 1 (rs 10 (qm 8<|qv 5<|qe) <| rs 11 (qm 1<|qm 0<|qm 5<|qi 5<|qJ 5<|q3 (.call (.v (.l 0)) .no none [.l 4])<|qe) <| cd 16 (rs 17 (qm 5<|qv 4<|qe) .ret) .skip)) <| r1 18 (q1 (.bin .add (.g 8) (ci 1))<|qv 8<|qe))
def c185 : C := rs 0 (qz 4 0<|qe) <| sq (rs 6 (qm 0<|qH false<|q3 (.mov (ci 0))<|qe) <| bk 0 l185_0) <| rs 0 (qz 4 (-1)<|qe) .ret
def F185 : F := mF 2 [.t 4] none c185
attribute [go_sem] c185 F185
def c186 : C := rs 0 (qB 1 0<|qF 2<|qe) <| i1 3 (qr 1 0<|q1 (.bin .neq (.l 1) (.c (.str [])))<|ya<|qr 1 0<|qc 170<|qn<|zA 3<|qe) 11 (rs 0 (qF 2<|qe) .ret) <| rs 12 (qr 1 1<|q1 (.bin .eql (.l 1) (.c (.str [])))<|yo<|qr 1 1<|qc 170<|ya<|qr 1 0<|qr 1 1<|qC 192 (ls [9,11])<|qk .lss 0<|y0 3<|qa 7<|zo 3<|qv 2<|qe) .ret
def F186 : F := mF 1 [.t 2] none c186
attribute [go_sem] c186 F186
def l188_0 : C := .loop [] [] [] [] (lq 46 (qm 7<|qm 5<|qQ .lss 0<|qe) 48 0 <| sq (bk 1 (i1 51 (qm 0<|qm 7<|q1 (.idx (.l 0) (.l 1))<|q1 (.bin .lss (.l 2) (.c (.int .u8 128)))<|yo<|qm 0<|qm 7<|q1 (.idx (.l 5) (.l 6))<|q1 (.bin .gtr (.l 7) (.c (.int .u8 191)))<|zO 4<|qe) 60 (rs 0 (qz 2 (-1)<|qz 3 1<|qe) .ret) <| r1 61 (qm 4<|q1 (.bin .mul (ci 64) (.l 0))<|qm 0<|qm 7<|q1 (.idx (.l 2) (.l 3))<|q1 (.conv (.int .i64) (.l 4))<|qq .add 1<|qk .sub 128<|qv 4<|qe))) <| r1 49 (qm 7<|qk .add 1<|qv 7<|qe))
def c188 : C := rs 0 (qz 2 0<|qz 3 0<|qe) <| rs 8 (qm 0<|q1 (.idx (.l 0) (ci 0))<|q1 (.conv (.int .i64) (.l 1))<|qv 4<|qe) <| i1 11 (qm 4<|qK .lss 128<|qe) 12 (rs 13 (qm 4<|qv 2<|qz 3 1<|qe) .ret) <| rs 0 (qz 5 0<|qz 6 0<|qe) <| sq (rs 14 (qm 4<|qk .geq 194<|ya<|qm 4<|qk .lss 224<|zA 2<|qe) <| cd 19 (r1 20 (qm 4<|qk .sub 192<|qz 5 2<|qz 6 128<|qV 4 1<|qe)) <| rs 22 (qm 4<|qk .geq 224<|ya<|qm 4<|qk .lss 240<|zA 2<|qe) <| cd 27 (r1 28 (qm 4<|qk .sub 224<|qz 5 3<|qz 6 2048<|qV 4 1<|qe)) <| rs 30 (qm 4<|qk .geq 240<|ya<|qm 4<|qk .lss 245<|zA 2<|qe) <| cd 35 (r1 36 (qm 4<|qk .sub 240<|qz 5 4<|qz 6 65536<|qV 4 1<|qe)) .skip) <| i1 38 (qm 5<|qk .eql 0<|yo<|qm 0<|qh true<|qm 5<|qq .lss 4<|zO 2<|qe) 45 (rs 0 (qz 2 (-1)<|qz 3 1<|qe) .ret) <| sq (rs 0 (qz 7 1<|qe) <| bk 0 l188_0) <| i1 69 (qm 4<|qm 6<|qq .lss 0<|yo<|qm 4<|qk .gtr 1114111<|zo 3<|yo<|qm 4<|qk .geq 55296<|ya<|qm 4<|qk .lss 57344<|y0 7<|qa 10<|zO 7<|qe) 83 (rs 0 (qz 2 (-1)<|qz 3 1<|qe) .ret) <| rs 84 (qm 4<|qm 5<|qw 2<|qw 3<|qe) .ret
def F188 : F := mF 1 [.t 2,.t 3] none c188
attribute [go_sem] c188 F188
def c189 : C := rs 0 (qF 2<|qe) <| rs 3 (qm 0<|qk .gtr 32<|ya<|qm 0<|qk .neq 127<|za 2<|ya<|qm 0<|qk .lss 128<|yo<|qm 0<|qk .gtr 159<|y1 6<|qo 9<|za 6<|qv 2<|qe) .ret
def F189 : F := mF 1 [.t 2] none c189
attribute [go_sem] c189 F189
def c191 : C := rs 0 (qF 4<|qe) <| rs 5 (qm 0<|q1 (.bin .geq (.l 0) (.c (.int .i32 33)))<|ya<|qm 0<|q1 (.bin .lss (.l 3) (.c (.int .i32 127)))<|yo<|qm 0<|q1 (.bin .gtr (.l 6) (.c (.int .i32 159)))<|y1 2<|qo 5<|za 2<|ya<|qm 0<|q1 (.bin .neq (.l 11) (.c (.int .i32 65533)))<|yo<|qm 1<|qk .eql 3<|y1 10<|qo 13<|za 10<|qv 4<|qe) .ret
def F191 : F := mF 2 [.t 4] none c191
attribute [go_sem] c191 F191
def l192_0 : C := .loop [] [] [] [] (lq 9 (qm 0<|q1 (.bin .neq (.l 0) (.c (.str [])))<|ya<|qm 1<|q1 (.bin .neq (.l 3) (.c (.str [])))<|zA 2<|qe) 14 0 <| bk 1 (rs 16 (qm 0<|qc 190<|q2 15 (.mov (.l 1))<|qx 0<|qy 1<|qw 5<|qw 6<|qe) <| rs 21 (qm 1<|qc 190<|q2 20 (.mov (.l 1))<|qx 0<|qy 1<|qw 7<|qw 8<|qe) <| sq (bk 2 (rs 26 (qm 5<|qm 7<|qq .lss 0<|qv 25<|qe) <| cd 25 (rs 0 (qz 4 (-1)<|qe) .ret) <| rs 30 (qm 5<|qm 7<|qq .gtr 0<|qv 29<|qe) <| cd 29 (rs 0 (qz 4 1<|qe) .ret) .skip)) <| r2 33 (qm 0<|qm 6<|q1 (.sl true 0 (.l 0) (some (.l 1)) none)<|qm 1<|qm 8<|q1 (.sl true 0 (.l 3) (some (.l 4)) none)<|qV 0 2<|qw 1<|qe)))
def c192 : C := rs 0 (qz 4 0<|qe) <| sq (bk 0 l192_0) <| sq (bk 3 (rs 40 (qm 0<|q1 (.bin .neq (.l 0) (.c (.str [])))<|qv 39<|qe) <| cd 39 (rs 0 (qz 4 1<|qe) .ret) <| rs 43 (qm 1<|q1 (.bin .neq (.l 0) (.c (.str [])))<|qv 42<|qe) <| cd 42 (rs 0 (qz 4 (-1)<|qe) .ret) .skip)) <| rs 0 (qz 4 0<|qe) .ret
def F192 : F := mF 2 [.t 4] none c192
attribute [go_sem] c192 F192
def c3 : C := rs 0 (qB 3 1<|qS 4 5<|qz 5 0<|qe) <| sq (bk 0 (rs 7 (qm 0<|qc 7<|qn<|yo<|qb 3 5<|qc 22<|qn<|zo 3<|qv 6<|qe) <| cd 6 (rs 0 (qS 4 5<|qz 5 1<|qe) .ret) <| rt 16 (qm 0<|qh false<|qk .gtr 0<|ya<|qm 0<|qm 0<|qh false<|qk .sub 1<|q1 (.iad 5 (.l 4) (.l 7))<|qg 0<|qJ 3<|qR 3 0 3<|qC 15 (ls [10,12])<|qk .geq 0<|za 3<|qv 15<|qe) <| cd 15 (rs 0 (qS 4 5<|qz 5 9<|qe) .ret) <| rs 33 (qm 0<|qh false<|qk .eql 64<|qv 32<|qe) <| cd 32 (rs 0 (qS 4 5<|qz 5 6<|qe) .ret) .skip)) <| rt 36 (qm 0<|q1 (.call (.k 23) .no (some 0) [.l 0])<|qb 3 5<|q1 (.mks 5 1 z_2 [(0,.l 2)])<|q1 (.app 37 5 (.l 1) (.l 3))<|qv 4<|qz 5 0<|qe) .ret
def F3 : F := mF 2 [.t 4,.t 5] none c3
attribute [go_sem] c3 F3
def l7_0 : C := .loop [] [] [4] [] (rs 8 (q3 (.bin .lss (.g 7) (.g 6))<|qe) <| sq (cd 8 .skip <| .exit 0) <| sq (bk 1 (rs 9 (qm 7<|q1 (.iad 5 (.g 5) (.g 7))<|qJ 5<|qG 4 z_2<|qV 3 0<|qs 4 5 3 2<|qe) <| rt 12 (qb 4 5<|qc 22<|qn<|yo<|qm 3<|qk .gtr 0<|ya<|qm 0<|qm 3<|qk .sub 1<|q1 (.iad 5 (.l 7) (.l 9))<|qg 0<|qJ 3<|qR 4 0 3<|qC 15 (ls [12,14])<|qk .geq 0<|y0 3<|qa 6<|zO 3<|qe) <| cd 30 (rs 0 (qF 2<|qe) .ret) .skip)) <| r1 31 (q1 (.bin .add (.g 7) (ci 1))<|qv 7<|qe))
def c7 : C := rs 0 (qF 2<|qe) <| sq (rs 5 (q3 (.mov (.g 0))<|qH false<|q3 (.mov (ci 0))<|qe) <| bk 0 l7_0) <| rs 32 (qm 0<|qh false<|qk .leq 64<|qv 2<|qe) .ret
def F7 : F := mF 1 [.t 2] none c7
attribute [go_sem] c7 F7
def c15 : C := rs 0 (qB 2 0<|qB 3 1<|qz 4 0<|qe) <| rt 5 (qr 2 0<|qr 3 0<|qC 26 (ls [1,3])<|qr 2 1<|qr 3 1<|qC 26 (ls [6,8])<|qr 2 2<|qr 3 2<|qC 26 (ls [11,13])<|q1 (.mks 1 3 [.int .i64 0] [(0,.l 4),(1,.l 9),(2,.l 14)])<|qc 27<|qv 4<|qe) .ret
def F15 : F := mF 2 [.t 4] none c15
attribute [go_sem] c15 F15
def c21 : C := rs 0 (qB 2 0<|qB 3 1<|qG 4 z_3<|qe) <| i1 5 (qb 2 3<|qb 3 3<|qd 15<|qK .lss 0<|qe) 8 (rs 9 (qb 3 3<|qt 4 3 0<|qe) .ret) <| rs 10 (qb 2 3<|qt 4 3 0<|qe) .ret
def F21 : F := mF 2 [.cell 4 (some 3)] none c21
attribute [go_sem] c21 F21
def c22 : C := rs 0 (qB 1 0<|qF 2<|qe) <| rs 3 (qR 1 0 3<|qc 28<|ya<|qr 1 4<|qh true<|qk .leq 16<|za 3<|ya<|qr 1 3<|qn<|yo<|qr 1 4<|q1 (.bin .eql (.l 15) (.c (.str [])))<|y1 9<|qo 13<|za 9<|qv 2<|qe) .ret
def F22 : F := mF 1 [.t 2] none c22
attribute [go_sem] c22 F22
def c24 : C := rs 0 (qB 1 0<|qF 2<|qe) <| rs 3 (qr 1 0<|qk .geq 0<|ya<|qr 1 0<|qk .leq 1099511627776<|za 3<|ya<|qr 1 1<|qk .geq 0<|za 8<|ya<|qr 1 1<|qk .leq 1048576<|za 13<|ya<|qr 1 2<|qk .geq 0<|za 18<|ya<|qr 1 2<|qk .leq 255<|za 23<|qv 2<|qe) .ret
def F24 : F := mF 1 [.t 2] none c24
attribute [go_sem] c24 F24
def c26 : C := rs 0 (qz 4 0<|qe) <| rs 7 (qm 0<|qc 31<|qv 5<|qe) <| rs 9 (qm 1<|qc 31<|qv 6<|qe) <| i1 11 (q3 (.mov (.g 5))<|qe) 11 (i1 12 (q3 (.mov (.g 6))<|qe) 12 (rs 0 (qz 4 0<|qe) .ret) <| rs 0 (qz 4 (-1)<|qe) .ret) <| i1 13 (q3 (.mov (.g 6))<|qe) 13 (rs 0 (qz 4 1<|qe) .ret) <| i1 14 (qm 0<|qm 1<|qQ .lss 0<|qe) 16 (rs 0 (qz 4 (-1)<|qe) .ret) <| i1 17 (qm 0<|qm 1<|qQ .gtr 0<|qe) 19 (rs 0 (qz 4 1<|qe) .ret) <| rs 0 (qz 4 0<|qe) .ret
def F26 : F := mF 2 [.t 4] none c26
attribute [go_sem] c26 F26
def l27_0 : C := .loop [] [] [] [] (rs 9 (q3 (.bin .lss (.g 8) (.g 7))<|qe) <| sq (cd 9 .skip <| .exit 0) <| sq (bk 1 (rs 10 (q1 (.iad 1 (.g 6) (.g 8))<|qj<|qv 5<|qe) <| rs 12 (qm 5<|qm 3<|qQ .neq 0<|qe) <| cd 14 (rs 15 (qm 5<|qv 2<|qe) .ret) .skip)) <| r1 16 (q1 (.bin .add (.g 8) (ci 1))<|qv 8<|qe))
def c27 : C := rs 0 (qz 2 0<|qe) <| rs 0 (qz 3 0<|qe) <| sq (rs 6 (q3 (.mov (.g 0))<|qH false<|q3 (.mov (ci 0))<|qe) <| bk 0 l27_0) <| rs 17 (qm 3<|qv 2<|qe) .ret
def F27 : F := mF 1 [.t 2] none c27
attribute [go_sem] c27 F27
def c28 : C := rs 0 (qB 1 0<|qF 2<|qe) <| rs 3 (qr 1 0<|qC 32 [.l 1,ci 1099511627776]<|ya<|qr 1 1<|qC 32 [.l 5,ci 1048576]<|za 3<|ya<|qr 1 2<|qC 32 [.l 10,ci 255]<|za 8<|qv 2<|qe) .ret
def F28 : F := mF 1 [.t 2] none c28
attribute [go_sem] c28 F28
def c31 : C := rs 0 (qF 2<|qe) <| rs 3 (qm 0<|qm 0<|qq .neq 0<|qv 2<|qe) .ret
def F31 : F := mF 1 [.t 2] none c31
attribute [go_sem] c31 F31
def c32 : C := rs 0 (qF 4<|qe) <| rs 5 (qm 0<|qk .geq 0<|ya<|qm 0<|qm 1<|qq .leq 3<|za 2<|qv 4<|qe) .ret
def F32 : F := mF 2 [.t 4] none c32
attribute [go_sem] c32 F32
def l81_0 : C := .loop [] [] [5] [] (rs 9 (q3 (.bin .lss (.g 8) (.g 7))<|qe) <| sq (cd 9 .skip <| .exit 0) <| sq (bk 1 (rs 10 (q1 (.iad 11 (.g 6) (.g 8))<|qJ 11<|qG 5 z_4<|qs 5 11 2 1<|qe) <| i1 12 (qr 5 0<|qm 3<|qq .leq 1<|yo<|qr 5 0<|qc 97<|qn<|zo 4<|yo<|qr 5 1<|qc 97<|qn<|zo 10<|yo<|qR 5 2 9<|qc 98<|qn<|zO 16<|qe) 33 (rs 0 (qF 2<|qe) .ret) <| r1 34 (qr 5 0<|qv 3<|qe))) <| r1 36 (q1 (.bin .add (.g 8) (ci 1))<|qv 8<|qe))
def c81 : C := rs 0 (qF 2<|qe) <| rs 0 (qz 3 0<|qe) <| sq (rs 6 (q3 (.mov (.g 0))<|qH false<|q3 (.mov (ci 0))<|qe) <| bk 0 l81_0) <| rs 37 (qm 0<|qh false<|qk .leq 8<|qv 2<|qe) .ret
def F81 : F := mF 1 [.t 2] none c81
attribute [go_sem] c81 F81
def c82 : C := rs 0 (qz 6 0<|qe) <| i1 9 (qm 0<|qc 81<|qn<|yo<|qm 1<|qc 97<|qn<|zo 3<|yo<|qm 2<|qc 97<|qn<|zO 8<|qe) 21 (rs 0 (qz 6 0<|qe) .ret) <| rs 23 (qm 0<|qm 1<|qd 84<|q2 22 (.mov (.l 2))<|qx 0<|qy 1<|qG 7 z_4<|qs 7 11 6 4<|qV 8 5<|qe) <| sq (bk 0 (rs 29 (qm 8<|qn<|yo<|qm 2<|qr 7 1<|qq .gtr 3<|zo 2<|qv 28<|qe) <| cd 28 (rs 0 (qz 6 1<|qe) .ret) <| rs 38 (qm 2<|qr 7 1<|qq .eql 0<|qv 37<|qe) <| cd 37 (rs 0 (qz 6 2<|qe) .ret) .skip)) <| rs 0 (qz 6 3<|qe) .ret
def F82 : F := mF 3 [.t 6] none c82
attribute [go_sem] c82 F82
def c84 : C := rs 0 (qG 4 z_4<|qF 5<|qe) <| i1 8 (qm 0<|qc 81<|qN<|qe) 10 (rs 11 (q1 (.build z_4 [])<|qt 4 11 0<|qF 5<|qe) .ret) <| rs 13 (qm 0<|qm 1<|qd 100<|q2 12 (.mov (.l 2))<|qx 0<|qy 1<|qw 6<|qw 7<|qe) <| i1 18 (qm 7<|qN<|qe) 19 (rs 20 (q1 (.build z_4 [])<|qt 4 11 0<|qF 5<|qe) .ret) <| rs 21 (qm 0<|qm 6<|qi 11<|qJ 11<|qt 4 11 3<|qT 5<|qe) .ret
def F84 : F := mF 2 [.cell 4 (some 11),.t 5] none c84
attribute [go_sem] c84 F84
def c88 : C := rs 0 (qB 3 1<|qS 4 11<|qz 5 0<|qe) <| i1 9 (qm 0<|qc 81<|qn<|yo<|qb 3 11<|q1 (.mks 11 1 z_4 [(0,.l 4)])<|qc 81<|qn<|zO 3<|qe) 17 (rs 0 (qS 4 11<|qz 5 1<|qe) .ret) <| rs 19 (qm 0<|qr 3 0<|qC 100 (ls [0,2])<|q2 18 (.mov (.l 3))<|qx 0<|qy 1<|qw 6<|qw 7<|qe) <| sq (bk 0 (rt 26 (qm 7<|ya<|qm 0<|qm 6<|qi 11<|qg 1<|qj<|qr 3 1<|qq .geq 6<|za 1<|qv 25<|qe) <| cd 25 (rs 0 (qS 4 11<|qz 5 9<|qe) .ret) <| rs 38 (qm 7<|qn<|ya<|qm 0<|qh false<|qk .eql 8<|za 2<|qv 37<|qe) <| cd 37 (rs 0 (qS 4 11<|qz 5 6<|qe) .ret) .skip)) <| rs 45 (qm 0<|q1 (.call (.k 102) .no (some 0) [.l 0])<|qv 8<|qe) <| i1 47 (q3 (.mov (.g 7))<|qe) 47 (rs 48 (qm 8<|qm 6<|qb 3 11<|q1 (.iad 11 (.l 0) (.l 1))<|q5 (.store (.e 46) 11 (.l 3) (.l 2))<|qe) <| rs 52 (qm 8<|qv 4<|qz 5 0<|qe) .ret) <| rs 53 (qm 8<|qm 6<|qb 3 11<|q1 (.mks 11 1 z_4 [(0,.l 2)])<|q1 (.ins 103 46 11 (.l 0) (.l 1) (.l 3))<|qv 4<|qz 5 0<|qe) .ret
def F88 : F := mF 2 [.t 4,.t 5] none c88
attribute [go_sem] c88 F88
def c97 : C := rs 0 (qF 2<|qe) <| rs 3 (qm 0<|qk .geq 1<|ya<|qm 0<|qk .leq 1099511627776<|za 2<|qv 2<|qe) .ret
def F97 : F := mF 1 [.t 2] none c97
attribute [go_sem] c97 F97
def c98 : C := rs 0 (qB 1 0<|qF 2<|qe) <| rs 3 (qr 1 0<|qk .geq 0<|ya<|qr 1 0<|qk .leq 16<|za 3<|ya<|qR 1 1 3<|qc 28<|za 8<|ya<|qr 1 5<|qh true<|qk .leq 16<|za 13<|ya<|qr 1 6<|qh false<|qk .eql 0<|za 19<|ya<|qr 1 7<|q1 (.bin .eql (.l 27) (.c (.str [])))<|za 25<|ya<|qr 1 8<|qn<|za 30<|qv 2<|qe) .ret
def F98 : F := mF 1 [.t 2] none c98
attribute [go_sem] c98 F98
def c100 : C := rs 0 (qB 3 1<|qz 4 0<|qF 5<|qe) <| rs 7 (qm 0<|q1 (.fn 105 [.g 3] [3])<|qd 106<|qv 6<|qe) <| i1 10 (qm 6<|qK .lss 0<|qe) 11 (rs 12 (qm 0<|qh false<|qv 4<|qF 5<|qe) .ret) <| rt 14 (qm 6<|qm 0<|qm 6<|qi 11<|qg 0<|qj<|q1 (.load (.v 3) none (.g 3))<|qq .eql 5<|qV 4 0<|qw 5<|qe) .ret
def F100 : F := mF 2 [.t 4,.t 5] none c100
attribute [go_sem] c100 F100
def l106_0 : C := .loop [] [] [] [] (rs 9 (q3 (.bin .lss (.g 8) (.g 7))<|qe) <| sq (cd 9 .skip <| .exit 0) <| sq (bk 1 (rs 10 (qm 8<|qv 5<|qe) <| rs 11 (qm 1<|qm 0<|qm 5<|qi 11<|qJ 11<|q3 (.call (.v (.l 0)) .no none [.l 4])<|qe) <| cd 16 (rs 17 (qm 5<|qv 4<|qe) .ret) .skip)) <| r1 18 (q1 (.bin .add (.g 8) (ci 1))<|qv 8<|qe))
def c106 : C := rs 0 (qz 4 0<|qe) <| sq (rs 6 (qm 0<|qH false<|q3 (.mov (ci 0))<|qe) <| bk 0 l106_0) <| rs 0 (qz 4 (-1)<|qe) .ret
def F106 : F := mF 2 [.t 4] none c106
attribute [go_sem] c106 F106
def c39 : C := rs 0 (qB 1 0<|qF 2<|qe) <| i1 3 (qr 1 0<|qk .lss 1<|yo<|qr 1 0<|qk .gtr 255<|zo 3<|yo<|qr 1 1<|qC 63 [.l 10,ci 0]<|qn<|zo 8<|yo<|qr 1 3<|qC 63 [.l 16,ci 0]<|qn<|zo 14<|yo<|qr 1 2<|qc 64<|qn<|zo 20<|yo<|qr 1 6<|qc 64<|qn<|zO 26<|qe) 34 (rs 0 (qF 2<|qe) .ret) <| i1 35 (qr 1 2<|qh false<|qk .gtr 0<|ya<|qr 1 2<|qr 1 0<|qC 65 (ls [6,8])<|qn<|zA 4<|qe) 46 (rs 0 (qF 2<|qe) .ret) <| i1 47 (qr 1 6<|q1 (.fn 66 [.g 1] [1])<|q3 (.call (.k 67) .no none [.l 1,.l 2])<|qe) 50 (rs 0 (qF 2<|qe) .ret) <| i1 51 (qb 1 7<|qc 68<|qN<|qe) 53 (rs 54 (qr 1 6<|qh false<|qk .eql 0<|ya<|qr 1 4<|qr 1 5<|qq .eql 6<|za 4<|qv 2<|qe) .ret) <| rs 65 (qr 1 6<|qr 1 0<|qC 65 (ls [1,3])<|ya<|qr 1 6<|qh false<|qr 1 2<|qh false<|qq .lss 8<|yo<|qr 1 4<|qr 1 5<|qq .eql 15<|y1 5<|qo 13<|za 5<|qv 2<|qe) .ret
def F39 : F := mF 1 [.t 2] none c39
attribute [go_sem] c39 F39
def c40 : C := rs 0 (qB 1 0<|qF 2<|qe) <| rs 3 (qb 1 7<|qc 39<|ya<|qb 1 7<|qc 68<|za 2<|qv 2<|qe) .ret
def F40 : F := mF 1 [.t 2] none c40
attribute [go_sem] c40 F40
def c41 : C := rs 0 (qB 1 0<|qF 2<|qe) <| rs 3 (qb 1 7<|qc 40<|ya<|qr 1 6<|qh false<|qr 1 2<|qh false<|qq .lss 5<|za 2<|qv 2<|qe) .ret
def F41 : F := mF 1 [.t 2] none c41
attribute [go_sem] c41 F41
def c43 : C := rs 0 (qG 6 z_5<|qz 7 0<|qe) <| rs 9 (qm 0<|qm 1<|qc 69<|qm 2<|qm 2<|q1 (.build z_5 [(0,1,.l 0),(1,1,.c (.int .i64 1)),(2,1,.l 2),(3,1,.c (.int .i64 1)),(4,1,.l 3),(5,1,.l 4)])<|qG 8 z_5<|qs 8 7 6 5<|qe) <| i1 15 (qb 8 7<|q3 (.call (.k 68) .no none [.l 0])<|qe) 16 (r1 17 (qm 1<|qc 69<|qf 8 6<|qs 8 1 2 1<|qe)) <| i1 20 (qm 1<|qh false<|qk .eql 0<|yo<|qb 8 7<|qc 39<|qn<|zO 3<|qe) 27 (rs 28 (q1 (.build z_5 [])<|qt 6 7 0<|qz 7 1<|qe) .ret) <| rs 29 (qb 8 7<|qt 6 7 0<|qz 7 0<|qe) .ret
def F43 : F := mF 3 [.cell 6 (some 7),.t 7] none c43
attribute [go_sem] c43 F43
def c47 : C := rs 0 (qB 2 0<|qG 4 z_5<|qS 5 7<|qz 6 0<|qe) <| sq (bk 0 (rs 8 (qb 2 7<|qc 39<|qn<|qv 7<|qe) <| cd 7 (rs 11 (q1 (.build z_5 [])<|qt 4 7 0<|qS 5 7<|qz 6 1<|qe) .ret) <| rs 13 (qb 2 7<|qc 68<|qn<|qv 12<|qe) <| cd 12 (rs 16 (q1 (.build z_5 [])<|qt 4 7 0<|qS 5 7<|qz 6 10<|qe) .ret) <| rs 18 (qb 2 7<|qc 41<|qv 17<|qe) <| cd 17 (rs 20 (q1 (.build z_5 [])<|qt 4 7 0<|qS 5 7<|qz 6 11<|qe) .ret) <| rs 22 (qr 2 3<|qk .eql 1099511627776<|qv 21<|qe) <| cd 21 (rs 25 (q1 (.build z_5 [])<|qt 4 7 0<|qS 5 7<|qz 6 6<|qe) .ret) .skip)) <| rs 26 (qr 2 3<|qk .add 1<|qf 2 3<|qs 2 1 3 2<|qe) <| rs 30 (qm 1<|qr 2 0<|q1 (.mks 1 1 [.int .i64 0] [(0,.l 2)])<|qf 2 5<|qs 2 1 4 0<|qf 2 6<|qs 2 1 6 3<|qe) <| rt 36 (qb 2 7<|qc 71<|qb 2 7<|qc 72<|qt 4 7 1<|qw 5<|qz 6 0<|qe) .ret
def F47 : F := mF 2 [.cell 4 (some 7),.t 5,.t 6] none c47
attribute [go_sem] c47 F47
def c51 : C := rs 0 (qB 1 0<|qS 2 7<|qe) <| i1 3 (qb 1 7<|qc 41<|qN<|qe) 5 (rs 0 (qS 2 7<|qe) .ret) <| rs 6 (qb 1 7<|qc 72<|qv 2<|qe) .ret
def F51 : F := mF 1 [.t 2] none c51
attribute [go_sem] c51 F51
def c57 : C := rs 0 (qB 2 0<|qB 3 1<|qG 4 z_5<|qS 5 7<|qe) <| i1 6 (qb 2 7<|q1 (.call (.k 39) .borrow none [.l 0])<|qn<|yo<|qr 3 2<|qr 2 0<|qq .neq 5<|zO 3<|qe) 15 (rs 16 (qb 2 7<|qt 4 7 0<|qS 5 7<|qe) .ret) <| sq (rs 17 (qf 3 0<|q3 (.load (.v 3) none (.l 0))<|qe) <| bk 0 (rs 20 (q1 (.bin .eql (.g 18) (ci 1))<|qv 19<|qe) <| cd 19 (rs 21 (qb 2 7<|qb 3 7<|q1 (.call (.k 74) .freeze none [.l 0,.l 1])<|qx 0<|qy 1<|qt 4 7 3<|qw 5<|qe) .ret) <| rs 27 (q1 (.bin .eql (.g 18) (ci 2))<|qv 26<|qe) <| cd 26 (rs 28 (qb 2 7<|q1 (.call (.k 68) .borrow none [.l 0])<|ya<|qr 3 3<|qr 2 1<|qq .eql 4<|za 2<|ya<|qr 3 4<|qr 2 3<|qq .eql 11<|za 9<|ya<|qr 2 2<|qr 3 1<|q1 (.call (.k 65) .borrow none [.l 18,.l 20])<|za 16<|ya<|qr 2 6<|qr 3 1<|q1 (.call (.k 65) .borrow none [.l 25,.l 27])<|qn<|zA 23<|qe) <| cd 58 (rt 59 (qr 2 6<|q1 (.call (.k 69) .freeze (some 0) [.l 1])<|qr 3 1<|q1 (.mks 1 1 [.int .i64 0] [(0,.l 4)])<|q1 (.app 61 1 (.l 2) (.l 5))<|qf 2 6<|qs 2 1 7 6<|qe) <| r1 67 (qb 2 7<|q1 (.call (.k 71) .freeze none [.l 0])<|qt 2 7 1<|qe)) .skip) <| rs 70 (q1 (.bin .eql (.g 18) (ci 3))<|qv 69<|qe) <| cd 69 (rs 71 (qr 3 3<|qr 2 1<|qQ .gtr 1<|qe) <| cd 75 (r1 76 (qr 2 5<|qf 2 2<|q5 (.store (.v 2) 1 (.l 2) (.c (.slice 1 [])))<|qf 2 6<|q5 (.store (.v 2) 1 (.l 4) (.c (.slice 1 [])))<|qf 2 4<|qs 2 1 6 1<|qe)) .skip) .skip)) <| rs 81 (qb 2 7<|qt 4 7 0<|qS 5 7<|qe) .ret
def F57 : F := mF 2 [.cell 4 (some 7),.t 5] none c57
attribute [go_sem] c57 F57
def c63 : C := rs 0 (qF 4<|qe) <| rs 5 (qm 0<|qm 1<|qq .geq 0<|ya<|qm 0<|qk .leq 1099511627776<|za 3<|qv 4<|qe) .ret
def F63 : F := mF 2 [.t 4] none c63
attribute [go_sem] c63 F63
def l64_0 : C := .loop [] [] [] [] (rs 8 (q3 (.bin .lss (.g 7) (.g 6))<|qe) <| sq (cd 8 .skip <| .exit 0) <| sq (bk 1 (rs 9 (qm 7<|q1 (.iad 1 (.g 5) (.g 7))<|qj<|qV 3 0<|qw 4<|qe) <| rs 12 (qm 4<|qk .lss 1<|yo<|qm 4<|qk .gtr 255<|zo 2<|yo<|qm 0<|qm 3<|q1 (.sl false 1 (.l 7) none (some (.l 8)))<|qm 4<|qd 65<|zO 6<|qe) <| cd 24 (rs 0 (qF 2<|qe) .ret) .skip)) <| r1 25 (q1 (.bin .add (.g 7) (ci 1))<|qv 7<|qe))
def c64 : C := rs 0 (qF 2<|qe) <| sq (rs 5 (q3 (.mov (.g 0))<|qH false<|q3 (.mov (ci 0))<|qe) <| bk 0 l64_0) <| rs 26 (qm 0<|qh false<|qk .leq 8<|qv 2<|qe) .ret
def F64 : F := mF 1 [.t 2] none c64
attribute [go_sem] c64 F64
def c65 : C := rs 0 (qF 4<|qe) <| rs 5 (qm 0<|qm 1<|qd 75<|qk .geq 0<|qv 4<|qe) .ret
def F65 : F := mF 2 [.t 4] none c65
attribute [go_sem] c65 F65
def c66 : C := rs 0 (qF 3<|qe) <| rs 4 (qf 1 2<|qj<|qm 0<|qd 65<|qn<|qv 3<|qe) .ret
def F66 : F := mF 2 [.t 3] none c66
attribute [go_sem] c66 F66
def c67 : C := rs 0 (qF 4<|qe) <| rs 5 (qm 0<|qm 1<|qd 76<|qk .geq 0<|qv 4<|qe) .ret
def F67 : F := mF 2 [.t 4] none c67
attribute [go_sem] c67 F67
def c68 : C := rs 0 (qB 1 0<|qF 2<|qe) <| rt 3 (qr 1 2<|qh false<|qk .gtr 0<|ya<|qr 1 2<|q1 (.iad 1 (.l 6) (ci 0))<|qj<|qr 1 0<|qq .eql 8<|za 4<|qv 2<|qe) .ret
def F68 : F := mF 1 [.t 2] none c68
attribute [go_sem] c68 F68
def c71 : C := rs 0 (qB 1 0<|qG 2 z_5<|qe) <| i1 3 (qr 1 6<|qh false<|qr 1 2<|qh false<|qQ .eql 2<|qe) 9 (r1 10 (qr 1 5<|qf 1 4<|qs 1 1 2 1<|qe)) <| rs 13 (qb 1 7<|qt 2 7 0<|qe) .ret
def F71 : F := mF 1 [.cell 2 (some 7)] none c71
attribute [go_sem] c71 F71
def l72_0 : C := .loop [] [] [] [] (rs 10 (q3 (.bin .lss (.g 9) (.g 8))<|qe) <| sq (cd 10 .skip <| .exit 0) <| sq (bk 1 (rs 11 (q1 (.iad 1 (.g 7) (.g 9))<|qj<|qv 5<|qe) <| rs 13 (qr 1 6<|qm 5<|qd 65<|qN<|qe) <| cd 17 (r2 18 (qm 3<|qr 1 0<|qm 5<|qr 1 1<|qr 1 3<|qr 1 2<|qc 69<|qr 1 5<|q1 (.build z_6 [(0,1,.c (.int .i64 1)),(1,1,.l 2),(2,1,.l 3),(3,1,.l 5),(4,1,.l 7),(5,1,.l 10),(6,1,.l 12)])<|q1 (.mks 7 1 z_6 [(0,.l 13)])<|q1 (.app 3 7 (.l 0) (.l 14))<|qv 3<|qe)) .skip)) <| r1 34 (q1 (.bin .add (.g 9) (ci 1))<|qv 9<|qe))
def c72 : C := rs 0 (qB 1 0<|qS 2 7<|qe) <| rs 3 (q3 (.mko 7)<|qe) <| sq (rs 6 (qf 1 2<|q3 (.load (.v 1) none (.l 0))<|qH false<|q3 (.mov (ci 0))<|qe) <| bk 0 l72_0) <| rs 35 (qm 3<|qv 2<|qe) .ret
def F72 : F := mF 1 [.t 2] none c72
attribute [go_sem] c72 F72
def c73 : C := rs 0 (qF 6<|qe) <| rs 7 (qm 0<|qh false<|qk .gtr 0<|ya<|qm 0<|qc 64<|za 3<|ya<|qm 0<|qm 1<|qd 65<|za 7<|ya<|qm 0<|q1 (.iad 1 (.l 13) (ci 0))<|qj<|qm 2<|qq .eql 15<|za 12<|qv 6<|qe) .ret
def F73 : F := mF 3 [.t 6] none c73
attribute [go_sem] c73 F73
def c74 : C := rs 0 (qB 2 0<|qB 3 1<|qG 4 z_5<|qS 5 7<|qe) <| i1 7 (qr 3 1<|qr 2 0<|qq .eql 1<|yo<|qr 3 5<|qr 2 0<|qr 3 1<|qC 73 (ls [7,9,11])<|qn<|zo 5<|yo<|qr 3 3<|qC 63 [.l 17,ci 1]<|qn<|zo 15<|yo<|qr 3 4<|qC 63 [.l 23,ci 1]<|qn<|zO 21<|qe) 33 (rs 34 (qb 2 7<|qt 4 7 0<|qS 5 7<|qe) .ret) <| i1 35 (qr 3 3<|qr 2 1<|qQ .lss 1<|qe) 39 (rt 40 (qb 2 7<|qr 2 0<|qr 3 1<|qr 2 1<|q1 (.build z_6 [(0,1,.c (.int .i64 3)),(1,1,.l 2),(2,1,.l 4),(3,1,.l 6)])<|q1 (.mks 7 1 z_6 [(0,.l 7)])<|qt 4 7 0<|qw 5<|qe) .ret) <| rs 49 (qr 3 3<|qr 2 1<|qq .eql 1<|qv 6<|qe) <| sq (bk 0 (rs 55 (qm 6<|ya<|qb 2 7<|qc 68<|yo<|qr 3 4<|qr 2 3<|qq .lss 6<|y1 1<|qo 4<|za 1<|qv 54<|qe) <| cd 54 (rs 67 (qb 2 7<|qt 4 7 0<|qS 5 7<|qe) .ret) <| rs 69 (qm 6<|qn<|yo<|qr 3 4<|qr 2 3<|qq .gtr 4<|zo 2<|qv 68<|qe) <| cd 68 (rt 78 (qr 3 3<|qr 3 5<|qc 69<|qr 3 4<|qf 2 1<|qs 2 1 7 1<|qf 2 2<|qs 2 1 9 4<|qf 2 3<|qs 2 1 11 6<|qe) <| r2 88 (qr 3 6<|qr 3 6<|qf 2 4<|qs 2 1 4 1<|qf 2 5<|qs 2 1 6 3<|qf 2 6<|q5 (.store (.v 2) 1 (.l 8) (.c (.slice 1 [])))<|qe)) .skip)) <| rt 95 (qb 2 7<|qr 2 0<|qr 3 1<|qr 2 1<|qr 2 3<|q1 (.build z_6 [(0,1,.c (.int .i64 2)),(1,1,.l 2),(2,1,.l 4),(3,1,.l 6),(4,1,.l 8)])<|q1 (.mks 7 1 z_6 [(0,.l 9)])<|qt 4 7 0<|qw 5<|qe) .ret
def F74 : F := mF 2 [.cell 4 (some 7),.t 5] none c74
attribute [go_sem] c74 F74
def l75_0 : C := .loop [] [] [] [] (rs 9 (q3 (.bin .lss (.g 8) (.g 7))<|qe) <| sq (cd 9 .skip <| .exit 0) <| sq (bk 1 (rs 10 (qm 8<|qv 5<|qe) <| rs 11 (qm 1<|qm 0<|qm 5<|qi 1<|qj<|qQ .eql 0<|qe) <| cd 16 (rs 17 (qm 5<|qv 4<|qe) .ret) .skip)) <| r1 18 (q1 (.bin .add (.g 8) (ci 1))<|qv 8<|qe))
def c75 : C := rs 0 (qz 4 0<|qe) <| sq (rs 6 (qm 0<|qH false<|q3 (.mov (ci 0))<|qe) <| bk 0 l75_0) <| rs 0 (qz 4 (-1)<|qe) .ret
def F75 : F := mF 2 [.t 4] none c75
attribute [go_sem] c75 F75
def l76_0 : C := .loop [] [] [] [] (rs 9 (q3 (.bin .lss (.g 8) (.g 7))<|qe) <| sq (cd 9 .skip <| .exit 0) <| sq (bk 1 (rs 10 (qm 8<|qv 5<|qe) <| rs 11 (qm 1<|qm 0<|qm 5<|qi 1<|qj<|q3 (.call (.v (.l 0)) .no none [.l 4])<|qe) <| cd 16 (rs 17 (qm 5<|qv 4<|qe) .ret) .skip)) <| r1 18 (q1 (.bin .add (.g 8) (ci 1))<|qv 8<|qe))
def c76 : C := rs 0 (qz 4 0<|qe) <| sq (rs 6 (qm 0<|qH false<|q3 (.mov (ci 0))<|qe) <| bk 0 l76_0) <| rs 0 (qz 4 (-1)<|qe) .ret
def F76 : F := mF 2 [.t 4] none c76
attribute [go_sem] c76 F76
def c200 : C := rs 0 (qB 5 2<|qS 6 2<|qz 7 0<|qe) <| i1 14 (qm 0<|qc 203<|qn<|yo<|qm 1<|qc 170<|qn<|zO 3<|qe) 21 (rs 0 (qS 6 2<|qz 7 1<|qe) .ret) <| rs 23 (qm 0<|qm 1<|qd 220<|q2 22 (.mov (.l 2))<|qx 0<|qy 1<|qw 8<|qw 9<|qe) <| rs 0 (qS 10 5<|qe) <| i1 28 (q3 (.mov (.g 9))<|qe) 28 (r1 29 (qm 0<|qm 8<|qi 2<|qg 1<|qj<|qv 10<|qe)) <| rs 35 (qm 10<|qb 5 5<|qd 3<|q2 34 (.mov (.l 2))<|qx 0<|qy 1<|qw 11<|qw 12<|qe) <| sq (bk 0 (rs 41 (qm 12<|qk .neq 0<|qv 40<|qe) <| cd 40 (rs 43 (qm 12<|qS 6 2<|qw 7<|qe) .ret) <| rs 45 (qm 9<|qn<|ya<|qm 0<|qh false<|qk .eql 64<|za 2<|qv 44<|qe) <| cd 44 (rs 0 (qS 6 2<|qz 7 6<|qe) .ret) .skip)) <| rs 52 (qm 0<|q1 (.call (.k 221) .no (some 0) [.l 0])<|qv 13<|qe) <| i1 54 (qm 9<|qN<|qe) 55 (r1 56 (qm 13<|qm 8<|qm 1<|q1 (.build z_7 [(0,1,.l 2)])<|q1 (.mks 2 1 z_7 [(0,.l 3)])<|q1 (.ins 222 53 2 (.l 0) (.l 1) (.l 4))<|qv 13<|qe)) <| rs 62 (qm 13<|qm 8<|qm 11<|q1 (.iad 2 (.l 0) (.l 1))<|qg 1<|q5 (.store (.e 53) 1 (.l 4) (.l 2))<|qe) <| rs 67 (qm 13<|qv 6<|qz 7 0<|qe) .ret
def F200 : F := mF 3 [.t 6,.t 7] none c200
attribute [go_sem] c200 F200
def l203_0 : C := .loop [] [] [4] [] (rs 8 (q3 (.bin .lss (.g 7) (.g 6))<|qe) <| sq (cd 8 .skip <| .exit 0) <| sq (bk 1 (rs 9 (qm 7<|q1 (.iad 2 (.g 5) (.g 7))<|qJ 2<|qG 4 z_7<|qV 3 0<|qs 4 2 3 2<|qe) <| rt 12 (qr 4 0<|qc 170<|qn<|yo<|qr 4 1<|qc 7<|qn<|zo 4<|yo<|qr 4 1<|qh false<|qk .eql 0<|zo 10<|yo<|qm 3<|qk .gtr 0<|ya<|qm 0<|qm 3<|qk .sub 1<|q1 (.iad 2 (.l 20) (.l 22))<|qg 0<|qj<|qr 4 0<|qC 192 (ls [25,27])<|qk .geq 0<|y0 16<|qa 19<|zO 16<|qe) <| cd 43 (rs 0 (qF 2<|qe) .ret) .skip)) <| r1 44 (q1 (.bin .add (.g 7) (ci 1))<|qv 7<|qe))
def c203 : C := rs 0 (qF 2<|qe) <| sq (rs 5 (q3 (.mov (.g 0))<|qH false<|q3 (.mov (ci 0))<|qe) <| bk 0 l203_0) <| rs 45 (qm 0<|qh false<|qk .leq 64<|qv 2<|qe) .ret
def F203 : F := mF 1 [.t 2] none c203
attribute [go_sem] c203 F203
def c220 : C := rs 0 (qz 4 0<|qF 5<|qe) <| rs 6 (qm 0<|qm 1<|qC 225 [.l 0,.l 1,.f 226]<|qx 0<|qy 1<|qw 4<|qw 5<|qe) .ret
def F220 : F := mF 2 [.t 4,.t 5] none c220
attribute [go_sem] c220 F220
def l221_0 : C := .loop [] [] [] [] (rs 10 (q3 (.bin .lss (.g 9) (.g 8))<|qe) <| sq (cd 10 .skip <| .exit 0) <| sq (bk 1 (rs 11 (qm 9<|qv 4<|qe) <| r1 12 (qm 3<|qm 4<|qm 3<|qm 4<|qi 2<|qg 1<|q1 (.load (.e 6) none (.l 5))<|qc 23<|q1 (.iad 2 (.l 0) (.l 1))<|qg 1<|q5 (.store (.e 6) 1 (.l 9) (.l 7))<|qe))) <| r1 22 (q1 (.bin .add (.g 9) (ci 1))<|qv 9<|qe))
def c221 : C := rs 0 (qS 2 2<|qe) <| rs 5 (qm 0<|q1 (.call (.k 227) .no (some 0) [.l 0])<|qv 3<|qe) <| sq (rs 7 (qm 3<|qH false<|q3 (.mov (ci 0))<|qe) <| bk 0 l221_0) <| rs 23 (qm 3<|qv 2<|qe) .ret
def F221 : F := mF 1 [.t 2] (some 0) c221
attribute [go_sem] c221 F221
def l225_0 : C := .loop [] [] [] [] (lq 15 (qm 9<|qm 10<|qQ .lss 0<|qe) 17 0 <| bk 1 (rs 18 (qm 9<|qm 10<|qq .add 0<|q1 (.conv (.int .u64) (.l 2))<|q1 (.sh .shr (.l 3) (.c (.int .u64 1)))<|q1 (.conv (.int .i64) (.l 4))<|qv 11<|qe) <| rs 24 (qm 2<|qm 0<|qm 11<|qi 2<|qJ 2<|qm 1<|q1 (.call (.v (.l 0)) .no none [.l 4,.l 5])<|qK .lss 0<|qe) <| cd 31 (r1 32 (qm 11<|qk .add 1<|qv 9<|qe)) <| r1 34 (qm 11<|qv 10<|qe)))
def c225 : C := rs 0 (qz 6 0<|qF 7<|qe) <| rs 12 (qm 0<|qh false<|qv 8<|qe) <| rs 14 (qm 8<|qz 9 0<|qw 10<|qe) <| sq (bk 0 l225_0) <| rs 35 (qm 9<|qm 9<|qm 8<|qq .lss 1<|ya<|qm 2<|qm 0<|qm 9<|qi 2<|qJ 2<|qm 1<|q1 (.call (.v (.l 5)) .no none [.l 9,.l 10])<|qk .eql 0<|za 4<|qV 6 0<|qw 7<|qe) .ret
def F225 : F := mF 3 [.t 6,.t 7] none c225
attribute [go_sem] c225 F225
def c240 : C := rs 0 (qB 6 0<|qB 9 3<|qB 10 4<|qG 12 z_8<|qG 13 z_9<|qe) <| i1 16 (qb 6 5<|qc 249<|qn<|yo<|qm 1<|qm 2<|q1 (.mks 1 2 [.int .i64 0] [(0,.l 4),(1,.l 5)])<|qC 284 [ci 1,.l 6]<|qn<|zo 3<|yo<|qm 5<|q1 (.mks 1 1 [.int .i64 0] [(0,.l 11)])<|qC 284 [ci 0,.l 12]<|qn<|zo 10<|yo<|qb 10 3<|qc 28<|qn<|zo 16<|yo<|qb 9 12<|qc 285<|qn<|zO 21<|qe) 41 (rt 42 (qb 6 5<|qC 286 [ci 1]<|qt 12 5 0<|qt 13 9 1<|qe) .ret) <| rs 44 (qb 6 5<|qm 1<|qd 287<|qG 14 z_10<|qs 14 17 3 2<|qe) <| rs 47 (qr 9 3<|q1 (.bin .eql (.l 1) (.c (.str [])))<|ya<|qf 14 2<|qg 0<|ql 14<|q1 (.bin .eql (.l 6) (.c (.str [])))<|za 3<|yo<|qR 14 2 2<|qr 9 3<|qC 171 (ls [11,13])<|zo 9<|qv 15<|qe) <| sq (bk 0 (rs 64 (qr 14 0<|qk .eql 0<|yo<|qr 14 1<|qm 2<|qq .neq 5<|zo 3<|yo<|qm 15<|qn<|zo 9<|qv 63<|qe) <| cd 63 (rt 77 (qb 6 5<|qC 286 [ci 10]<|qt 12 5 0<|qt 13 9 1<|qe) .ret) <| rs 80 (qr 14 4<|qk .neq 1<|yo<|qb 9 12<|qc 288<|ya<|qr 14 13<|qk .neq 0<|y0 3<|qa 6<|zo 3<|qv 79<|qe) <| cd 79 (rt 92 (qb 6 5<|qC 286 [ci 11]<|qt 12 5 0<|qt 13 9 1<|qe) .ret) <| rs 95 (qb 9 12<|qc 288<|qv 94<|qe) <| cd 94 (rs 97 (qb 6 5<|qb 14 17<|qb 9 12<|qb 10 3<|qC 289 (ls [0,1,2,3])<|qx 0<|qy 1<|qt 12 5 5<|qt 13 9 6<|qe) .ret) <| rs 105 (qr 9 2<|qk .eql 4<|qv 104<|qe) <| cd 104 (rt 108 (qb 6 5<|qb 6 5<|qb 14 17<|qr 9 3<|qC 290 (ls [1,2,4])<|qt 12 5 0<|qt 13 9 5<|qe) .ret) .skip)) <| rs 114 (qb 6 5<|qb 14 17<|qb 9 12<|qm 5<|qC 291 (ls [0,1,2,3])<|qx 0<|qy 1<|qt 12 5 5<|qt 13 9 6<|qe) .ret
def F240 : F := mF 6 [.cell 12 (some 5),.cell 13 (some 9)] none c240
attribute [go_sem] c240 F240
def c244 : C := rs 0 (qB 1 0<|qF 2<|qe) <| i1 3 (qr 1 0<|qr 1 1<|q1 (.mks 1 2 [.int .i64 0] [(0,.l 1),(1,.l 3)])<|qC 284 [ci 1,.l 4]<|qn<|yo<|qr 1 13<|qr 1 14<|qr 1 15<|qr 1 16<|q1 (.mks 1 4 [.int .i64 0] [(0,.l 9),(1,.l 11),(2,.l 13),(3,.l 15)])<|qC 284 [ci 0,.l 16]<|qn<|zo 7<|yo<|qr 1 4<|qk .lss 1<|zo 20<|yo<|qr 1 4<|qk .gtr 3<|zO 25<|qe) 32 (rs 0 (qF 2<|qe) .ret) <| i1 33 (qR 1 2 2<|qc 186<|qn<|yo<|qr 1 5<|qc 203<|qn<|zo 4<|yo<|qR 1 6 3<|qc 28<|qn<|zo 10<|yo<|qR 1 9 3<|qc 28<|qn<|zo 16<|yo<|qr 1 12<|qc 81<|qn<|zO 22<|qe) 60 (rs 0 (qF 2<|qe) .ret) <| rs 61 (qr 1 5<|q1 (.fn 298 [.g 1] [1])<|qd 299<|qn<|qv 2<|qe) .ret
def F244 : F := mF 1 [.t 2] none c244
attribute [go_sem] c244 F244
def l249_0 : C := .loop [] [] [5] [] (rs 10 (q3 (.bin .lss (.g 9) (.g 8))<|qe) <| sq (cd 10 .skip <| .exit 0) <| sq (bk 1 (rs 11 (q1 (.iad 17 (.g 7) (.g 9))<|qJ 17<|qG 5 z_10<|qs 5 17 2 1<|qe) <| i1 13 (qr 5 0<|qm 3<|qq .leq 1<|yo<|qb 5 17<|qc 244<|qn<|zo 4<|yo<|qb 5 17<|qR 1 1 3<|qC 301 (ls [10,12])<|qn<|zO 9<|qe) 28 (rs 0 (qF 2<|qe) .ret) <| r1 29 (qr 5 0<|qv 3<|qe))) <| r1 31 (q1 (.bin .add (.g 9) (ci 1))<|qv 9<|qe))
def c249 : C := rs 0 (qB 1 0<|qF 2<|qe) <| rs 0 (qz 3 0<|qe) <| sq (rs 6 (qf 1 0<|q3 (.load (.v 1) none (.l 0))<|qH false<|q3 (.mov (ci 0))<|qe) <| bk 0 l249_0) <| rs 32 (qr 1 0<|qh false<|qk .leq 8<|ya<|qR 1 1 3<|qc 28<|za 4<|ya<|qr 1 4<|q1 (.mks 1 1 [.int .i64 0] [(0,.l 11)])<|qC 284 [ci 0,.l 12]<|za 9<|qv 2<|qe) .ret
def F249 : F := mF 1 [.t 2] none c249
attribute [go_sem] c249 F249
def c284 : C := rs 0 (qB 2 0<|qF 4<|qe) <| rs 5 (qm 1<|q1 (.fn 313 [.g 2] [2])<|qd 67<|qn<|qv 4<|qe) .ret
def F284 : F := mF 2 [.t 4] none c284
attribute [go_sem] c284 F284
def c285 : C := rs 0 (qB 1 0<|qF 2<|qe) <| i1 3 (qr 1 0<|qr 1 1<|q1 (.mks 1 2 [.int .i64 0] [(0,.l 1),(1,.l 3)])<|qC 284 [ci 1,.l 4]<|qn<|yo<|qr 1 2<|qk .lss 1<|zo 7<|yo<|qr 1 2<|qk .gtr 6<|zo 12<|yo<|qr 1 4<|qh true<|qk .gtr 16<|zo 17<|yo<|qr 1 6<|qh true<|qk .gtr 16<|zo 23<|yo<|qr 1 11<|qk .lss 0<|zo 29<|yo<|qr 1 11<|qk .gtr 8<|zo 34<|yo<|qR 1 7 3<|qc 28<|qn<|zo 39<|yo<|qr 1 10<|q1 (.bin .neq (.l 47) (.c (.str [])))<|ya<|qr 1 10<|qc 170<|qn<|y0 45<|qa 49<|zO 45<|qe) 58 (rs 0 (qF 2<|qe) .ret) <| i1 59 (qr 1 2<|qK .eql 6<|qe) 61 (rs 62 (qr 1 3<|q1 (.bin .eql (.l 1) (.c (.str [])))<|yo<|qr 1 3<|qc 170<|zo 3<|ya<|qr 1 11<|qk .geq 1<|za 8<|qv 2<|qe) .ret) <| rs 75 (qr 1 3<|qc 170<|qv 2<|qe) .ret
def F285 : F := mF 1 [.t 2] none c285
attribute [go_sem] c285 F285
def c287 : C := rs 0 (qB 2 0<|qG 4 z_10<|qe) <| sq (rs 8 (qb 2 5<|qm 1<|qd 314<|q2 7 (.mov (.l 2))<|qx 0<|qy 1<|qw 5<|qw 6<|qe) <| rs 13 (q3 (.mov (.g 6))<|qe) <| cd 13 (rs 14 (qr 2 0<|qm 5<|qi 17<|qJ 17<|qt 4 17 4<|qe) .ret) .skip) <| rs 19 (q1 (.build z_10 [])<|qt 4 17 0<|qe) .ret
def F287 : F := mF 2 [.cell 4 (some 17)] none c287
attribute [go_sem] c287 F287
def c288 : C := rs 0 (qB 1 0<|qF 2<|qe) <| rs 3 (qr 1 2<|qk .eql 1<|yo<|qr 1 2<|qk .eql 2<|zo 3<|yo<|qr 1 2<|qk .eql 3<|zo 8<|qv 2<|qe) .ret
def F288 : F := mF 1 [.t 2] none c288
attribute [go_sem] c288 F288
def c289 : C := rs 0 (qB 4 0<|qB 5 1<|qB 6 2<|qB 7 3<|qG 8 z_8<|qG 9 z_9<|qe) <| sq (rs 15 (qr 5 12<|qr 6 0<|qr 6 1<|q3 (.call (.k 82) .no none [.l 1,.l 3,.l 5])<|qe) <| bk 0 (rs 23 (q1 (.bin .eql (.g 21) (ci 2))<|qv 22<|qe) <| cd 22 (rs 25 (qr 5 12<|qr 6 0<|qC 84 (ls [1,3])<|q2 24 (.mov (.l 4))<|qx 0<|qy 1<|qG 10 z_4<|qs 10 11 8 6<|qD 11<|q1 (.mov (.l 7))<|qe) <| rt 32 (qb 4 5<|qR 10 2 9<|qt 8 5 0<|qt 9 9 2<|qe) .ret) <| rs 36 (q1 (.bin .eql (.g 21) (ci 3))<|qv 35<|qe) <| cd 35 (rt 37 (qb 4 5<|qC 286 [ci 10]<|qt 8 5 0<|qt 9 9 1<|qe) .ret) .skip)) <| i1 39 (qb 7 3<|qR 4 1 3<|qC 15 (ls [0,2])<|qK .leq 0<|qe) 43 (rt 44 (qb 4 5<|qC 286 [ci 1]<|qt 8 5 0<|qt 9 9 1<|qe) .ret) <| rs 46 (qb 4 5<|qb 5 17<|qr 6 3<|qC 290 (ls [0,1,3])<|qG 12 z_9<|qs 12 9 5 4<|qe) <| rs 51 (qb 7 3<|qr 12 4<|q1 (.build z_9 [(1,3,.l 0),(4,1,.l 2)])<|qG 13 z_9<|qs 13 9 4 3<|qe) <| rs 0 (qz 14 0<|qe) <| sq (bk 1 (rs 56 (qr 6 2<|qk .eql 3<|ya<|qr 12 4<|qr 6 5<|q1 (.eqb true (.l 5) (.l 7))<|yo<|qr 12 4<|ya<|qr 12 5<|qr 6 6<|qq .neq 14<|y0 9<|qa 12<|y1 3<|qo 9<|za 3<|qv 55<|qe) <| cd 55 (r2 77 (qr 12 5<|qf 13 0<|qu 13 2 15<|qf 13 5<|qs 13 1 4 1<|qe)) <| rs 82 (qr 6 2<|qk .neq 2<|qv 81<|qe) <| cd 81 (r1 86 (qr 5 5<|qr 6 3<|qb 7 3<|qr 6 4<|q1 (.build z_2 [(0,3,.l 4),(4,1,.l 6)])<|qC 200 (ls [1,3,7])<|q2 85 (.mov (.l 8))<|qx 0<|qy 1<|qf 5 5<|qs 5 1 12 10<|qV 14 11<|qe)) <| rs 99 (qr 12 4<|qv 98<|qe) <| cd 98 (r1 102 (qr 5 5<|qr 6 3<|qb 7 3<|q1 (.build z_2 [(0,3,.l 4),(3,1,.c (.bool true))])<|qC 200 (ls [1,3,5])<|q2 101 (.mov (.l 6))<|qx 0<|qy 1<|qf 5 5<|qs 5 1 10 8<|qV 14 9<|qe)) .skip)) <| i1 112 (qm 14<|qK .neq 0<|qe) 113 (rt 114 (qb 4 5<|qm 14<|qc 286<|qt 8 5 0<|qt 9 9 2<|qe) .ret) <| sq (rs 118 (qr 5 12<|qr 6 0<|qr 6 1<|qb 13 9<|q1 (.build z_4 [(0,1,.l 3),(1,1,.l 5),(2,9,.l 6)])<|qC 88 (ls [1,7])<|q2 117 (.mov (.l 8))<|qx 0<|qy 1<|qf 5 12<|qs 5 1 12 10<|qV 14 11<|qe) <| rs 130 (qm 14<|qK .neq 0<|qe) <| cd 131 (rt 132 (qb 4 5<|qm 14<|qc 286<|qt 8 5 0<|qt 9 9 2<|qe) .ret) .skip) <| rs 135 (qb 4 5<|qb 5 17<|qd 304<|qt 4 5 2<|qe) <| rs 138 (qb 7 3<|qf 4 1<|qs 4 3 1 0<|qe) <| rt 140 (qb 4 5<|qb 13 9<|qt 8 5 0<|qt 9 9 1<|qe) .ret
def F289 : F := mF 4 [.cell 8 (some 5),.cell 9 (some 9)] none c289
attribute [go_sem] c289 F289
def c290 : C := rs 0 (qB 3 0<|qB 4 1<|qG 6 z_9<|qe) <| rs 10 (qr 4 5<|qm 2<|qR 3 1 3<|qC 312 (ls [1,2,4])<|q2 9 (.mov (.l 5))<|qx 0<|qy 1<|qG 7 z_2<|qs 7 5 9 7<|qV 8 8<|qe) <| rs 18 (qR 7 0 3<|qm 8<|ya<|qr 7 3<|qn<|za 3<|qr 7 4<|q1 (.build z_9 [(1,3,.l 1),(4,1,.l 7),(5,1,.l 9)])<|qt 6 9 10<|qe) .ret
def F290 : F := mF 3 [.cell 6 (some 9)] none c290
attribute [go_sem] c290 F290
def c298 : C := rs 0 (qB 2 0<|qF 3<|qe) <| rs 4 (qf 1 2<|qJ 2<|qr 2 0<|qC 171 (ls [1,3])<|qn<|qv 3<|qe) .ret
def F298 : F := mF 2 [.t 3] none c298
attribute [go_sem] c298 F298
def c299 : C := rs 0 (qF 4<|qe) <| rs 5 (qm 0<|qm 1<|qd 315<|qk .geq 0<|qv 4<|qe) .ret
def F299 : F := mF 2 [.t 4] none c299
attribute [go_sem] c299 F299
def c301 : C := rs 0 (qB 2 0<|qB 3 1<|qF 4<|qe) <| rs 5 (qr 2 5<|q1 (.fn 316 [.g 3] [3])<|qd 299<|qn<|qv 4<|qe) .ret
def F301 : F := mF 2 [.t 4] none c301
attribute [go_sem] c301 F301
def c304 : C := rs 0 (qB 2 0<|qB 3 1<|qG 4 z_8<|qe) <| rs 8 (qb 2 5<|qr 3 0<|q1 (.call (.k 314) .borrow none [.l 0,.l 2])<|q2 7 (.mov (.l 3))<|qx 0<|qy 1<|qw 5<|qw 6<|qe) <| rs 14 (qr 2 0<|q1 (.call (.k 307) .freeze (some 0) [.l 1])<|qf 2 0<|qs 2 1 3 2<|qe) <| sq (rs 18 (q3 (.mov (.g 6))<|qe) <| cd 18 (r1 19 (qr 2 0<|qm 5<|qb 3 17<|q1 (.iad 17 (.l 1) (.l 2))<|q5 (.store (.e 16) 17 (.l 4) (.l 3))<|qe)) <| r1 24 (qr 2 0<|qm 5<|qb 3 17<|q1 (.mks 17 1 z_10 [(0,.l 3)])<|q1 (.ins 317 16 17 (.l 1) (.l 2) (.l 4))<|qf 2 0<|qs 2 1 6 5<|qe)) <| rs 31 (qb 2 5<|qt 4 5 0<|qe) .ret
def F304 : F := mF 2 [.cell 4 (some 5)] none c304
attribute [go_sem] c304 F304
def c312 : C := rs 0 (qB 5 2<|qG 6 z_2<|qF 7<|qe) <| i1 10 (qm 0<|qc 203<|qN<|qe) 12 (rs 13 (q1 (.build z_2 [])<|qt 6 5 0<|qF 7<|qe) .ret) <| rs 15 (qm 0<|qm 1<|qd 220<|q2 14 (.mov (.l 2))<|qx 0<|qy 1<|qw 8<|qw 9<|qe) <| i1 20 (qm 9<|qN<|qe) 21 (rs 22 (q1 (.build z_2 [])<|qt 6 5 0<|qF 7<|qe) .ret) <| rt 23 (qm 0<|qm 8<|qi 2<|qg 1<|qj<|qb 5 3<|qd 10<|qx 0<|qy 1<|qt 6 5 7<|qw 7<|qe) .ret
def F312 : F := mF 3 [.cell 6 (some 5),.t 7] none c312
attribute [go_sem] c312 F312
def c313 : C := rs 0 (qF 3<|qe) <| rs 4 (qm 0<|q1 (.load (.c) none (.g 1))<|qq .lss 0<|yo<|qm 0<|qk .gtr 1099511627776<|zo 3<|qv 3<|qe) .ret
def F313 : F := mF 2 [.t 3] none c313
attribute [go_sem] c313 F313
def c314 : C := rs 0 (qB 2 0<|qz 4 0<|qF 5<|qe) <| rs 6 (qr 2 0<|qm 1<|qC 319 [.l 1,.l 2,.f 320]<|qx 0<|qy 1<|qw 4<|qw 5<|qe) .ret
def F314 : F := mF 2 [.t 4,.t 5] none c314
attribute [go_sem] c314 F314
def l315_0 : C := .loop [] [] [] [] (rs 9 (q3 (.bin .lss (.g 8) (.g 7))<|qe) <| sq (cd 9 .skip <| .exit 0) <| sq (bk 1 (rs 10 (qm 8<|qv 5<|qe) <| rs 11 (qm 1<|qm 0<|qm 5<|qi 2<|qJ 2<|q3 (.call (.v (.l 0)) .no none [.l 4])<|qe) <| cd 16 (rs 17 (qm 5<|qv 4<|qe) .ret) .skip)) <| r1 18 (q1 (.bin .add (.g 8) (ci 1))<|qv 8<|qe))
def c315 : C := rs 0 (qz 4 0<|qe) <| sq (rs 6 (qm 0<|qH false<|q3 (.mov (ci 0))<|qe) <| bk 0 l315_0) <| rs 0 (qz 4 (-1)<|qe) .ret
def F315 : F := mF 2 [.t 4] none c315
attribute [go_sem] c315 F315
def c316 : C := rs 0 (qB 2 0<|qF 3<|qe) <| rt 4 (qr 2 1<|qr 2 1<|qh false<|qk .sub 1<|q1 (.iad 5 (.l 1) (.l 5))<|qg 0<|qJ 3<|q1 (.load (.c) (some 3) (.g 1))<|qd 15<|qk .gtr 0<|qv 3<|qe) .ret
def F316 : F := mF 2 [.t 3] none c316
attribute [go_sem] c316 F316
def l319_0 : C := .loop [] [] [] [] (lq 15 (qm 9<|qm 10<|qQ .lss 0<|qe) 17 0 <| bk 1 (rs 18 (qm 9<|qm 10<|qq .add 0<|q1 (.conv (.int .u64) (.l 2))<|q1 (.sh .shr (.l 3) (.c (.int .u64 1)))<|q1 (.conv (.int .i64) (.l 4))<|qv 11<|qe) <| rs 24 (qm 2<|qm 0<|qm 11<|qi 17<|qJ 17<|qm 1<|q1 (.call (.v (.l 0)) .no none [.l 4,.l 5])<|qK .lss 0<|qe) <| cd 31 (r1 32 (qm 11<|qk .add 1<|qv 9<|qe)) <| r1 34 (qm 11<|qv 10<|qe)))
def c319 : C := rs 0 (qz 6 0<|qF 7<|qe) <| rs 12 (qm 0<|qh false<|qv 8<|qe) <| rs 14 (qm 8<|qz 9 0<|qw 10<|qe) <| sq (bk 0 l319_0) <| rs 35 (qm 9<|qm 9<|qm 8<|qq .lss 1<|ya<|qm 2<|qm 0<|qm 9<|qi 17<|qJ 17<|qm 1<|q1 (.call (.v (.l 5)) .no none [.l 9,.l 10])<|qk .eql 0<|za 4<|qV 6 0<|qw 7<|qe) .ret
def F319 : F := mF 3 [.t 6,.t 7] none c319
attribute [go_sem] c319 F319
def c320 : C := rs 0 (qB 2 0<|qz 4 0<|qe) <| rs 5 (qr 2 0<|qm 1<|qq .sub 1<|qv 4<|qe) .ret
def F320 : F := mF 2 [.t 4] none c320
attribute [go_sem] c320 F320
def c109 : C := rs 0 (qB 3 0<|qG 6 z_3<|qe) <| i1 10 (qm 2<|qc 126<|qn<|yo<|qm 1<|qh false<|qk .eql 0<|zo 3<|yo<|qb 3 3<|qc 28<|qn<|zo 8<|yo<|qm 1<|qC 128 [.l 14,.f 129]<|zO 13<|qe) 26 (rs 27 (qb 3 3<|qt 6 3 0<|qe) .ret) <| rs 28 (qm 1<|qC 130 [.l 0,.f 15]<|qG 7 z_3<|qs 7 3 2 1<|qe) <| sq (rs 31 (qm 2<|qc 113<|q2 30 (.mov (.l 1))<|qx 0<|qy 1<|qG 8 z_3<|qs 8 3 5 3<|qV 9 4<|qe) <| rs 35 (q3 (.mov (.g 9))<|qe) <| cd 35 (r1 36 (qb 7 3<|qb 8 3<|qd 131<|qt 7 3 2<|qe)) .skip) <| rs 39 (qb 3 3<|qb 7 3<|qd 21<|qt 6 3 2<|qe) .ret
def F109 : F := mF 3 [.cell 6 (some 3)] none c109
attribute [go_sem] c109 F109
def l112_0 : C := .loop [] [] [5] [] (rs 12 (q3 (.bin .lss (.g 11) (.g 10))<|qe) <| sq (cd 12 .skip <| .exit 0) <| sq (bk 1 (rs 13 (q1 (.iad 5 (.g 9) (.g 11))<|qJ 5<|qG 5 z_11<|qs 5 5 2 1<|qe) <| rs 15 (qr 5 1<|qk .sub 1<|qf 5 1<|qs 5 1 3 2<|qe) <| rs 19 (qr 5 1<|qK .gtr 0<|qe) <| cd 21 (r1 22 (qm 3<|qb 5 5<|q1 (.mks 5 1 z_11 [(0,.l 1)])<|q1 (.app 3 5 (.l 0) (.l 2))<|qv 3<|qe)) .skip)) <| r1 26 (q1 (.bin .add (.g 11) (ci 1))<|qv 11<|qe))
def c112 : C := rs 0 (qS 2 5<|qe) <| i1 6 (qm 0<|qc 126<|qN<|qe) 8 (rs 0 (qS 2 5<|qe) .ret) <| rs 3 (q3 (.mko 5)<|qe) <| sq (rs 9 (q3 (.mov (.g 0))<|qH false<|q3 (.mov (ci 0))<|qe) <| bk 0 l112_0) <| rs 27 (qm 3<|qv 2<|qe) .ret
def F112 : F := mF 1 [.t 2] none c112
attribute [go_sem] c112 F112
def l113_0 : C := .loop [] [] [6] [] (rs 23 (q3 (.bin .lss (.g 22) (.g 21))<|qe) <| sq (cd 23 .skip <| .exit 0) <| sq (bk 1 (rs 24 (q1 (.iad 5 (.g 20) (.g 22))<|qJ 5<|qG 6 z_11<|qs 6 5 2 1<|qe) <| r1 26 (qb 4 3<|qR 6 2 3<|qC 131 (ls [0,2])<|qt 4 3 3<|qe))) <| r1 30 (q1 (.bin .add (.g 22) (ci 1))<|qv 22<|qe))
def c113 : C := rs 0 (qG 2 z_3<|qF 3<|qe) <| i1 7 (qm 0<|qc 126<|qn<|yo<|qm 0<|qh false<|qk .eql 0<|zO 3<|qe) 14 (rs 15 (q1 (.build z_3 [])<|qt 2 3 0<|qF 3<|qe) .ret) <| rs 16 (qm 0<|q1 (.iad 5 (.l 0) (ci 0))<|qg 2<|qJ 3<|qG 4 z_3<|qs 4 3 4 3<|qe) <| sq (rs 20 (q3 (.mov (.g 0))<|qH false<|q3 (.mov (ci 0))<|qe) <| bk 0 l113_0) <| rs 31 (qb 4 3<|qt 2 3 0<|qT 3<|qe) .ret
def F113 : F := mF 1 [.cell 2 (some 3),.t 3] none c113
attribute [go_sem] c113 F113
def l126_0 : C := .loop [] [] [5] [] (rs 9 (q3 (.bin .lss (.g 8) (.g 7))<|qe) <| sq (cd 9 .skip <| .exit 0) <| sq (bk 1 (rs 10 (q1 (.iad 5 (.g 6) (.g 8))<|qJ 5<|qG 5 z_11<|qs 5 5 2 1<|qe) <| i1 12 (qr 5 0<|qm 3<|qq .leq 1<|yo<|qr 5 0<|qk .gtr 1099511627776<|zo 4<|yo<|qr 5 1<|qk .lss 1<|zo 9<|yo<|qr 5 1<|qk .gtr 20<|zo 14<|yo<|qR 5 2 3<|qc 28<|qn<|zO 19<|qe) 36 (rs 0 (qF 2<|qe) .ret) <| r1 37 (qr 5 0<|qv 3<|qe))) <| r1 39 (q1 (.bin .add (.g 8) (ci 1))<|qv 8<|qe))
def c126 : C := rs 0 (qF 2<|qe) <| rs 0 (qz 3 0<|qe) <| sq (rs 6 (q3 (.mov (.g 0))<|qH false<|q3 (.mov (ci 0))<|qe) <| bk 0 l126_0) <| rs 40 (qm 0<|qh false<|qk .leq 4<|qv 2<|qe) .ret
def F126 : F := mF 1 [.t 2] none c126
attribute [go_sem] c126 F126
def c128 : C := rs 0 (qF 4<|qe) <| rs 5 (qm 0<|qm 1<|qd 137<|qk .geq 0<|qv 4<|qe) .ret
def F128 : F := mF 2 [.t 4] none c128
attribute [go_sem] c128 F128
def c129 : C := rs 0 (qB 1 0<|qF 2<|qe) <| rs 3 (qb 1 3<|qc 28<|qn<|qv 2<|qe) .ret
def F129 : F := mF 1 [.t 2] none c129
attribute [go_sem] c129 F129
def l130_0 : C := .loop [] [] [] [] (lq 14 (qm 6<|qm 0<|qh false<|qQ .lss 0<|qe) 17 0 <| sq (bk 1 (rt 20 (qm 1<|qm 0<|qm 6<|qi 3<|qJ 3<|qb 5 3<|q1 (.call (.v (.l 0)) .no none [.l 4,.l 5])<|qK .lss 0<|qe) <| cd 27 (r1 28 (qm 0<|qm 6<|qi 3<|qJ 3<|qt 5 3 3<|qe)) .skip)) <| r1 18 (qm 6<|qk .add 1<|qv 6<|qe))
def c130 : C := rs 0 (qG 4 z_3<|qe) <| i1 7 (qm 0<|qh false<|qK .lss 1<|qe) 9 (r1 10 (q1 (.bad)<|q5 (.bad)<|qe)) <| rs 11 (qm 0<|q1 (.iad 3 (.l 0) (ci 0))<|qJ 3<|qG 5 z_3<|qs 5 3 3 2<|qe) <| sq (rs 0 (qz 6 1<|qe) <| bk 0 l130_0) <| rs 32 (qb 5 3<|qt 4 3 0<|qe) .ret
def F130 : F := mF 2 [.cell 4 (some 3)] none c130
attribute [go_sem] c130 F130
def l137_0 : C := .loop [] [] [] [] (rs 9 (q3 (.bin .lss (.g 8) (.g 7))<|qe) <| sq (cd 9 .skip <| .exit 0) <| sq (bk 1 (rs 10 (qm 8<|qv 5<|qe) <| rs 11 (qm 1<|qm 0<|qm 5<|qi 3<|qJ 3<|q3 (.call (.v (.l 0)) .no none [.l 4])<|qe) <| cd 16 (rs 17 (qm 5<|qv 4<|qe) .ret) .skip)) <| r1 18 (q1 (.bin .add (.g 8) (ci 1))<|qv 8<|qe))
def c137 : C := rs 0 (qz 4 0<|qe) <| sq (rs 6 (qm 0<|qH false<|q3 (.mov (ci 0))<|qe) <| bk 0 l137_0) <| rs 0 (qz 4 (-1)<|qe) .ret
def F137 : F := mF 2 [.t 4] none c137
attribute [go_sem] c137 F137
def l327_0 : C := .loop [] [] [] [] (lq 6 (qm 2<|qK .leq 3<|qe) 7 0 <| sq (bk 1 (r2 10 (qr 1 1<|qm 2<|q1 (.call (.k 345) .freeze none [.l 2])<|q1 (.build z_12 [(0,1,.c (.int .i64 1)),(1,1,.l 3),(2,1,.c (.bool true))])<|q1 (.mks 3 1 z_12 [(0,.l 4)])<|q1 (.app 16 3 (.l 1) (.l 5))<|qf 1 1<|qs 1 1 7 6<|qe))) <| r1 8 (qm 2<|qk .add 1<|qv 2<|qe))
def c327 : C := rs 0 (qG 0 z_13<|qe) <| rt 3 (q1 (.call (.k 154) .freeze none [])<|q1 (.mks 3 3 z_3 [])<|q1 (.build [.slice 5 [],.nslice 3,.int .i64 0,.slice 5 [],.slice 3 [],.int .i64 0,.int .i64 0,.int .i64 0,.int .i64 0,.int .i64 0,.int .i64 0,.int .i64 0,.int .i64 0,.int .i64 0,.int .i64 0,.int .i64 0,.str [],.slice 1 [],.int .i64 0,.int .i64 0,.int .i64 0,.str [],.str [],.slice 1 [],.int .i64 0,.int .i64 0,.int .i64 0,.slice 1 [],.slice 7 []] [(0,1,.l 0),(2,1,.c (.int .i64 2)),(4,1,.l 1)])<|qG 1 z_14<|qs 1 29 3 2<|qe) <| sq (rs 0 (qz 2 1<|qe) <| bk 0 l327_0) <| rs 18 (qb 1 29<|qt 0 29 0<|qe) .ret
def F327 : F := mF 0 [.cell 0 (some 29)] none c327
attribute [go_sem] c327 F327
def l328_0 : C := .loop [] [] [] [] (rs 58 (q3 (.bin .lss (.g 57) (ci 3))<|qe) <| sq (cd 58 .skip <| .exit 0) <| sq (bk 1 (rs 59 (qm 57<|qv 3<|qe) <| rs 60 (qr 1 1<|qm 3<|qi 3<|qg 0<|qj<|q1 (.mks 1 1 [.int .i64 0] [(0,.l 5)])<|qC 347 [ci 1,.l 6]<|qn<|yo<|qr 1 1<|qm 3<|qi 3<|qg 1<|qj<|qc 348<|qn<|zo 9<|yo<|qr 1 4<|qm 3<|qi 3<|qJ 3<|qc 28<|qn<|zO 19<|qe) <| cd 87 (rs 0 (qF 2<|qe) .ret) .skip)) <| r1 88 (q1 (.bin .add (.g 57) (ci 1))<|qv 57<|qe))
def l328_1 : C := .loop [] [] [6] [] (rs 93 (q3 (.bin .lss (.g 92) (.g 91))<|qe) <| sq (cd 93 .skip <| .exit 2) <| sq (bk 3 (rs 94 (q1 (.iad 7 (.g 90) (.g 92))<|qJ 7<|qG 6 z_15<|qs 6 7 2 1<|qe) <| i1 96 (qr 6 0<|qm 4<|qq .leq 1<|yo<|qr 6 0<|qk .gtr 8<|zo 4<|yo<|qr 6 1<|qr 6 2<|q1 (.mks 1 2 [.int .i64 0] [(0,.l 11),(1,.l 13)])<|qC 347 [ci 0,.l 14]<|qn<|zo 9<|yo<|qR 6 3 3<|qc 28<|qn<|zo 18<|yo<|qr 6 6<|qk .lss 0<|zo 24<|yo<|qr 6 6<|qk .gtr 16<|zO 29<|qe) 129 (rs 0 (qF 2<|qe) .ret) <| r1 130 (qr 6 0<|qv 4<|qe))) <| r1 132 (q1 (.bin .add (.g 92) (ci 1))<|qv 92<|qe))
def c328 : C := rs 0 (qB 1 0<|qF 2<|qe) <| i1 7 (qr 1 0<|qc 141<|qn<|yo<|qr 1 3<|qc 126<|qn<|zo 4<|yo<|qr 1 1<|qh false<|qk .neq 3<|zo 10<|yo<|qr 1 4<|qh false<|qk .neq 3<|zo 16<|yo<|qr 1 2<|qk .lss 2<|zo 22<|yo<|qr 1 2<|qk .gtr 1099511627776<|zo 27<|yo<|qR 1 5 3<|qc 28<|qn<|zo 32<|yo<|qR 1 8 20<|qc 346<|qn<|zo 38<|yo<|qr 1 28<|qh false<|qk .gtr 8<|zO 44<|qe) 56 (rs 0 (qF 2<|qe) .ret) <| sq (rs 0 (qz 57 0<|qe) <| bk 0 l328_0) <| rs 0 (qz 4 0<|qe) <| sq (rs 89 (qf 1 28<|q3 (.load (.v 1) none (.l 0))<|qH false<|q3 (.mov (ci 0))<|qe) <| bk 2 l328_1) <| rs 0 (qT 2<|qe) .ret
def F328 : F := mF 1 [.t 2] none c328
attribute [go_sem] c328 F328
def l335_0 : C := .loop [] [] [] [] (lq 35 (qm 7<|qK .leq 3<|qe) 36 0 <| sq (bk 1 (rt 39 (qm 4<|qb 1 29<|qm 7<|qd 357<|qm 7<|qb 5 3<|q1 (.build z_16 [(0,1,.c (.int .i64 30)),(2,1,.l 3),(7,1,.l 4),(9,3,.l 5)])<|q1 (.mks 36 1 z_16 [(0,.l 6)])<|q1 (.app 19 36 (.l 0) (.l 7))<|qv 4<|qe) <| rs 48 (qR 1 5 3<|q1 (.build z_3 [])<|q3 (.eqa true [.i,.i,.i] (.l 1) (.l 2))<|qe) <| cd 51 (r2 52 (qm 4<|qb 1 29<|qm 7<|qd 357<|qm 7<|qR 1 5 3<|q1 (.build z_16 [(0,1,.c (.int .i64 32)),(2,1,.l 3),(7,1,.l 4),(9,3,.l 6)])<|q1 (.mks 36 1 z_16 [(0,.l 7)])<|q1 (.app 19 36 (.l 0) (.l 8))<|qv 4<|qe)) .skip)) <| r1 37 (qm 7<|qk .add 1<|qv 7<|qe))
def l335_1 : C := .loop [] [] [9] [] (rs 66 (q3 (.bin .lss (.g 65) (.g 64))<|qe) <| sq (cd 66 .skip <| .exit 2) <| sq (bk 3 (rs 67 (qm 65<|q1 (.iad 3 (.g 63) (.g 65))<|qJ 3<|qG 9 z_12<|qV 8 0<|qs 9 3 3 2<|qe) <| rs 70 (qr 9 2<|qN<|qe) <| cd 72 (r2 73 (qm 4<|qr 9 1<|q1 (.iad 1 (.l 2) (ci 0))<|qj<|qm 8<|qk .add 1<|qr 9 0<|qr 9 1<|qc 69<|q1 (.build z_16 [(0,1,.c (.int .i64 33)),(2,1,.l 4),(7,1,.l 6),(4,1,.l 8),(35,1,.l 11)])<|q1 (.mks 36 1 z_16 [(0,.l 12)])<|q1 (.app 19 36 (.l 0) (.l 13))<|qv 4<|qe)) .skip)) <| r1 88 (q1 (.bin .add (.g 65) (ci 1))<|qv 65<|qe))
def c335 : C := rs 0 (qB 1 0<|qG 2 z_13<|qS 3 36<|qe) <| i1 10 (qb 1 29<|qc 328<|qN<|qe) 12 (rs 13 (qb 1 29<|qt 2 29 0<|qS 3 36<|qe) .ret) <| rs 14 (qr 1 3<|qc 112<|qf 1 3<|qs 1 1 3 2<|qe) <| rs 18 (qb 1 29<|q1 (.call (.k 355) .no (some 0) [.l 0])<|qv 4<|qe) <| i1 20 (qf 1 8<|qg 0<|ql 1<|qK .eql 0<|qe) 23 (rs 25 (qr 1 3<|qc 113<|q2 24 (.mov (.l 2))<|qx 0<|qy 1<|qG 5 z_3<|qs 5 3 6 4<|qV 6 5<|qe) <| i1 30 (qm 6<|qN<|qe) 31 (r1 32 (qr 1 4<|qC 356 [.l 1,.f 15]<|qt 5 3 2<|qe)) <| rs 0 (qz 7 1<|qe) <| bk 0 l335_0) <| sq (rs 62 (qf 1 1<|q3 (.load (.v 1) none (.l 0))<|qH false<|q3 (.mov (ci 0))<|qe) <| bk 2 l335_1) <| rs 89 (qb 1 29<|qm 4<|qt 2 29 0<|qw 3<|qe) .ret
def F335 : F := mF 1 [.cell 2 (some 29),.t 3] none c335
attribute [go_sem] c335 F335
def l340_0 : C := .loop [] [] [] [] (lq 73 (qm 8<|qK .leq 3<|qe) 74 1 <| sq (bk 2 (r2 77 (qr 7 35<|qb 2 29<|qm 8<|q1 (.call (.k 357) .borrow none [.l 2,.l 3])<|q1 (.mks 1 1 [.int .i64 0] [(0,.l 4)])<|q1 (.app 83 1 (.l 1) (.l 5))<|qf 7 35<|qs 7 1 7 6<|qe))) <| r1 75 (qm 8<|qk .add 1<|qv 8<|qe))
def c340 : C := rs 0 (qB 2 0<|qB 3 1<|qG 4 z_13<|qS 5 36<|qe) <| i1 13 (qb 2 29<|q1 (.call (.k 328) .borrow none [.l 0])<|qn<|yo<|qb 3 36<|q1 (.call (.k 341) .borrow none [.l 4])<|qn<|zo 3<|yo<|qr 3 2<|qk .neq 0<|zO 8<|qe) 25 (rs 26 (qb 2 29<|qt 4 29 0<|q4 5 (.mko 36)<|qe) .ret) <| rs 27 (qr 3 7<|qk .geq 1<|ya<|qr 3 7<|qk .leq 3<|za 3<|qv 6<|qe) <| sq (rs 35 (qf 3 0<|q3 (.load (.v 3) none (.l 0))<|qe) <| bk 0 (rs 66 (q1 (.bin .eql (.g 36) (ci 3))<|qv 65<|qe) <| cd 65 (rt 67 (qr 3 1<|qr 2 0<|q1 (.call (.k 179) .freeze none [.l 3])<|q1 (.build [.int .i64 0,.int .i64 0,.int .i64 0,.int .i64 0,.int .i64 0,.int .i64 0,.int .i64 0,.int .i64 0,.int .i64 0,.int .i64 0,.int .i64 0,.int .i64 0,.str [],.int .i64 0,.int .i64 0,.int .i64 0,.str [],.str [],.bool false,.str [],.int .i64 0,.int .i64 0,.int .i64 0,.str [],.int .i64 0,.int .i64 0,.int .i64 0,.int .i64 0,.int .i64 0,.bool false,.str [],.slice 2 [],.str [],.bool false,.slice 5 [],.nslice 1] [(0,1,.c (.int .i64 4)),(2,1,.l 1),(34,1,.l 4)])<|qG 7 z_17<|qs 7 36 6 5<|qe) <| sq (rs 0 (qz 8 1<|qe) <| bk 1 l340_0) <| rt 85 (qb 2 29<|q1 (.ldf 83 7 36 (.g 7))<|q1 (.mkb 36 1 z_16 [(0,.l 1)])<|qt 4 29 0<|qw 5<|qe) .ret) <| rs 89 (q1 (.bin .eql (.g 36) (ci 7))<|qv 88<|qe) <| cd 88 (rs 91 (qr 2 3<|qr 3 6<|q1 (.call (.k 121) .freeze none [.l 1,.l 3])<|q2 90 (.mov (.l 4))<|qx 0<|qy 1<|qw 9<|qw 10<|qe) <| rs 98 (qm 10<|qK .eql 0<|qe) <| cd 99 (r1 100 (qm 9<|qf 2 3<|qs 2 1 1 0<|qe)) .skip) <| rs 103 (q1 (.bin .eql (.g 36) (ci 31))<|qv 102<|qe) <| cd 102 (rs 104 (q3 (.mov (.g 6))<|qe) <| cd 104 (rs 105 (qb 2 29<|qb 3 36<|q1 (.call (.k 361) .freeze none [.l 0,.l 1])<|qt 4 29 2<|q4 5 (.mko 36)<|qe) .ret) .skip) <| rs 109 (q1 (.bin .eql (.g 36) (ci 34))<|qv 108<|qe) <| cd 108 (rs 110 (q3 (.mov (.g 6))<|qe) <| cd 110 (rs 111 (qb 2 29<|qb 3 36<|q1 (.call (.k 362) .freeze none [.l 0,.l 1])<|qt 4 29 2<|q4 5 (.mko 36)<|qe) .ret) .skip) <| rs 115 (q1 (.bin .eql (.g 36) (ci 5))<|qv 114<|qe) <| cd 114 (rs 116 (qb 2 29<|qb 3 36<|q1 (.call (.k 363) .freeze (some 1) [.l 0,.l 1])<|qx 0<|qy 1<|qt 4 29 3<|qw 5<|qe) .ret) <| sq (rs 122 (q1 (.bin .eql (.g 36) (ci 9))<|qv 121<|qe) <| cd 121 .skip <| r1 123 (q1 (.bin .eql (.g 36) (ci 11))<|qv 121<|qe)) <| cd 121 (rs 124 (qf 2 8<|qg 0<|ql 2<|qk .eql 4<|ya<|qf 2 8<|qg 2<|ql 2<|qr 3 6<|qq .eql 7<|zA 4<|qe) <| cd 135 (rs 136 (qb 2 29<|qb 3 36<|q1 (.call (.k 364) .freeze (some 1) [.l 0,.l 1])<|qx 0<|qy 1<|qt 4 29 3<|qw 5<|qe) .ret) .skip) <| rs 37 (qf 2 8<|qg 0<|ql 2<|qk .geq 1<|ya<|qf 2 8<|qg 0<|ql 2<|qk .leq 3<|za 4<|ya<|qf 2 8<|qg 2<|ql 2<|qr 3 5<|qq .eql 13<|zA 10<|qe) <| cd 54 (rs 56 (qb 2 29<|qb 3 36<|q1 (.call (.k 365) .freeze none [.l 0,.l 1])<|q2 55 (.mov (.l 2))<|qx 0<|qy 1<|qG 11 z_13<|qs 11 29 6 4<|qV 12 5<|qe) <| rs 61 (q3 (.mov (.g 12))<|qe) <| cd 61 (rt 62 (qb 11 29<|qb 11 29<|q1 (.call (.k 355) .freeze (some 0) [.l 1])<|qt 4 29 0<|qw 5<|qe) .ret) .skip) .skip)) <| rs 141 (qb 2 29<|qt 4 29 0<|q4 5 (.mko 36)<|qe) .ret
def F340 : F := mF 2 [.cell 4 (some 29),.t 5] (some 1) c340
attribute [go_sem] c340 F340
def c341 : C := rs 0 (qB 1 0<|qF 2<|qe) <| i1 3 (qr 1 0<|qk .lss 1<|yo<|qr 1 0<|qk .gtr 37<|zo 3<|yo<|qf 1 25<|qg 0<|ql 1<|qk .lss 0<|zo 8<|yo<|qf 1 25<|qg 0<|ql 1<|qk .gtr 16<|zo 14<|yo<|qf 1 25<|qg 6<|ql 1<|qh false<|qk .gtr 8<|zo 20<|yo<|qr 1 34<|qh false<|qk .gtr 8<|zo 27<|yo<|qr 1 35<|qh false<|qk .gtr 8<|zO 33<|qe) 41 (rs 0 (qF 2<|qe) .ret) <| i1 42 (qb 1 36<|qc 366<|q3 (.call (.k 67) .no none [.l 1,.f 367])<|qe) 44 (rs 0 (qF 2<|qe) .ret) <| rs 45 (qR 1 9 3<|qc 28<|ya<|qf 1 13<|qg 7<|q1 (.load (.v 1) (some 3) (.l 5))<|qc 28<|za 3<|ya<|qf 1 25<|qg 1<|q1 (.load (.v 1) (some 3) (.l 11))<|qc 28<|za 9<|qv 2<|qe) .ret
def F341 : F := mF 1 [.t 2] none c341
attribute [go_sem] c341 F341
def c345 : C := rs 0 (qS 2 1<|qe) <| i1 3 (qm 0<|qc 368<|qN<|qe) 5 (rs 0 (qS 2 1<|qe) .ret) <| rs 6 (qm 0<|qm 0<|qk .rem 3<|qk .add 1<|q1 (.mks 1 2 [.int .i64 0] [(0,.l 0),(1,.l 3)])<|qv 2<|qe) .ret
def F345 : F := mF 1 [.t 2] none c345
attribute [go_sem] c345 F345
def c346 : C := rs 0 (qB 1 0<|qF 2<|qe) <| i1 3 (qr 1 0<|qk .lss 0<|yo<|qr 1 0<|qk .gtr 5<|zo 3<|yo<|qr 1 1<|qk .lss 0<|zo 8<|yo<|qr 1 1<|qk .gtr 7<|zo 13<|yo<|qr 1 2<|qr 1 3<|qr 1 4<|qr 1 7<|qr 1 10<|qr 1 11<|qr 1 12<|q1 (.mks 1 7 [.int .i64 0] [(0,.l 20),(1,.l 22),(2,.l 24),(3,.l 26),(4,.l 28),(5,.l 30),(6,.l 32)])<|qC 347 [ci 0,.l 33]<|qn<|zo 18<|yo<|qr 1 15<|qC 347 [ci 0,.l 39]<|qn<|zo 37<|yo<|qR 1 16 3<|qc 28<|qn<|zO 43<|qe) 51 (rs 0 (qF 2<|qe) .ret) <| i1 52 (qr 1 5<|qk .lss 0<|yo<|qr 1 5<|qk .gtr 3<|zo 3<|yo<|qr 1 6<|qk .lss 0<|zo 8<|yo<|qr 1 6<|qk .gtr 3<|zo 13<|yo<|qr 1 19<|qh false<|qk .gtr 0<|ya<|qr 1 19<|qc 348<|qn<|y0 18<|qa 23<|zO 18<|qe) 81 (rs 0 (qF 2<|qe) .ret) <| sq (rs 82 (qf 1 0<|q3 (.load (.v 1) none (.l 0))<|qe) <| bk 0 (rs 85 (q1 (.bin .eql (.g 83) (ci 5))<|qv 84<|qe) <| cd 84 (rs 86 (qr 1 5<|qk .gtr 0<|ya<|qr 1 19<|qh false<|qk .gtr 0<|za 3<|qv 2<|qe) .ret) <| rs 96 (q1 (.bin .eql (.g 83) (ci 1))<|qv 95<|qe) <| cd 95 (rs 97 (qr 1 5<|qk .gtr 0<|ya<|qr 1 6<|qk .gtr 0<|za 3<|qv 2<|qe) .ret) <| sq (rs 106 (q1 (.bin .eql (.g 83) (ci 2))<|qv 105<|qe) <| cd 105 .skip <| r1 107 (q1 (.bin .eql (.g 83) (ci 3))<|qv 105<|qe)) <| cd 105 (rs 108 (qr 1 5<|qk .gtr 0<|qv 2<|qe) .ret) .skip)) <| rs 0 (qT 2<|qe) .ret
def F346 : F := mF 1 [.t 2] none c346
attribute [go_sem] c346 F346
def c347 : C := rs 0 (qB 2 0<|qF 4<|qe) <| rs 5 (qm 1<|q1 (.fn 369 [.g 2] [2])<|qd 67<|qn<|qv 4<|qe) .ret
def F347 : F := mF 2 [.t 4] none c347
attribute [go_sem] c347 F347
def l348_0 : C := .loop [] [] [] [] (rs 8 (q3 (.bin .lss (.g 7) (.g 6))<|qe) <| sq (cd 8 .skip <| .exit 0) <| sq (bk 1 (rs 9 (qm 7<|q1 (.iad 1 (.g 5) (.g 7))<|qj<|qV 3 0<|qw 4<|qe) <| rs 12 (qm 4<|qk .lss 1<|yo<|qm 4<|qk .gtr 3<|zo 2<|yo<|qm 0<|qm 3<|q1 (.sl false 1 (.l 7) none (some (.l 8)))<|qm 4<|qd 65<|zO 6<|qe) <| cd 24 (rs 0 (qF 2<|qe) .ret) .skip)) <| r1 25 (q1 (.bin .add (.g 7) (ci 1))<|qv 7<|qe))
def c348 : C := rs 0 (qF 2<|qe) <| sq (rs 5 (q3 (.mov (.g 0))<|qH false<|q3 (.mov (ci 0))<|qe) <| bk 0 l348_0) <| rs 26 (qm 0<|qh false<|qk .gtr 0<|qv 2<|qe) .ret
def F348 : F := mF 1 [.t 2] none c348
attribute [go_sem] c348 F348
def c355 : C := rs 0 (qB 1 0<|qS 2 36<|qe) <| rs 4 (qR 1 8 20<|qG 3 z_18<|qs 3 20 2 1<|qe) <| sq (rs 6 (qf 3 0<|q3 (.load (.v 3) none (.l 0))<|qe) <| bk 0 (rs 9 (q1 (.bin .eql (.g 7) (ci 4))<|qv 8<|qe) <| cd 8 (rs 10 (qb 1 29<|q1 (.call (.k 370) .no (some 0) [.l 0])<|qv 2<|qe) .ret) <| rs 13 (q1 (.bin .eql (.g 7) (ci 5))<|qv 12<|qe) <| cd 12 (i1 14 (qr 3 1<|qK .neq 1<|qe) 16 (rs 2 (q3 (.mko 36)<|qe) .ret) <| rt 17 (qr 3 19<|q1 (.iad 1 (.l 1) (ci 0))<|qj<|qr 3 5<|qr 1 1<|qr 3 5<|qk .sub 1<|q1 (.iad 3 (.l 7) (.l 10))<|qg 0<|qj<|qk .add 1<|qr 3 19<|qc 69<|q1 (.build z_16 [(0,1,.c (.int .i64 33)),(2,1,.l 3),(7,1,.l 5),(4,1,.l 14),(35,1,.l 17)])<|q1 (.mkb 36 1 z_16 [(0,.l 18)])<|qv 2<|qe) .ret) <| sq (rs 38 (q1 (.bin .eql (.g 7) (ci 1))<|qv 37<|qe) <| cd 37 .skip <| rs 39 (q1 (.bin .eql (.g 7) (ci 2))<|qv 37<|qe) <| cd 37 .skip <| r1 40 (q1 (.bin .eql (.g 7) (ci 3))<|qv 37<|qe)) <| cd 37 (rs 41 (qb 1 29<|q1 (.call (.k 371) .no (some 0) [.l 0])<|qv 2<|qe) .ret) .skip)) <| rs 2 (q3 (.mko 36)<|qe) .ret
def F355 : F := mF 1 [.t 2] (some 0) c355
attribute [go_sem] c355 F355
def l356_0 : C := .loop [] [] [] [] (lq 14 (qm 6<|qm 0<|qh false<|qQ .lss 0<|qe) 17 0 <| sq (bk 1 (rt 20 (qm 1<|qm 0<|qm 6<|qi 3<|qJ 3<|qb 5 3<|q1 (.call (.v (.l 0)) .no none [.l 4,.l 5])<|qK .gtr 0<|qe) <| cd 27 (r1 28 (qm 0<|qm 6<|qi 3<|qJ 3<|qt 5 3 3<|qe)) .skip)) <| r1 18 (qm 6<|qk .add 1<|qv 6<|qe))
def c356 : C := rs 0 (qG 4 z_3<|qe) <| i1 7 (qm 0<|qh false<|qK .lss 1<|qe) 9 (r1 10 (q1 (.bad)<|q5 (.bad)<|qe)) <| rs 11 (qm 0<|q1 (.iad 3 (.l 0) (ci 0))<|qJ 3<|qG 5 z_3<|qs 5 3 3 2<|qe) <| sq (rs 0 (qz 6 1<|qe) <| bk 0 l356_0) <| rs 32 (qb 5 3<|qt 4 3 0<|qe) .ret
def F356 : F := mF 2 [.cell 4 (some 3)] none c356
attribute [go_sem] c356 F356
def c357 : C := rs 0 (qB 2 0<|qz 4 0<|qe) <| rs 5 (qr 2 1<|qm 1<|qk .sub 1<|q1 (.iad 3 (.l 1) (.l 3))<|qg 1<|qj<|q1 (.iad 1 (.l 6) (ci 0))<|qj<|qv 4<|qe) .ret
def F357 : F := mF 2 [.t 4] none c357
attribute [go_sem] c357 F357
def c361 : C := rs 0 (qB 2 0<|qB 3 1<|qG 4 z_13<|qe) <| rs 5 (qr 2 4<|q1 (.call (.k 373) .freeze (some 0) [.l 1])<|qf 2 4<|qs 2 1 3 2<|qe) <| rt 9 (qr 2 4<|qr 3 7<|qk .sub 1<|qr 2 4<|qr 3 7<|qk .sub 1<|q1 (.iad 3 (.l 6) (.l 9))<|q1 (.load (.e 7) (some 3) (.l 10))<|qR 3 9 3<|q1 (.call (.k 21) .freeze none [.l 11,.l 13])<|q1 (.iad 3 (.l 1) (.l 4))<|q5 (.store (.e 7) 3 (.l 15) (.l 14))<|qe) <| i1 25 (qf 2 8<|qg 0<|ql 2<|qK .eql 0<|qe) 28 (r1 29 (qR 2 5 3<|qr 2 4<|qr 2 3<|q1 (.call (.k 109) .freeze none [.l 1,.l 3,.l 5])<|qf 2 5<|qs 2 3 7 6<|qe)) <| rs 37 (qb 2 29<|qt 4 29 0<|qe) .ret
def F361 : F := mF 2 [.cell 4 (some 29)] none c361
attribute [go_sem] c361 F361
def l366_0 : C := .loop [] [] [5] [] (rs 41 (q3 (.bin .lss (.g 40) (.g 39))<|qe) <| sq (cd 41 .skip <| .exit 0) <| sq (bk 1 (rs 42 (q1 (.iad 5 (.g 38) (.g 40))<|qJ 5<|qG 5 z_0<|qs 5 5 2 1<|qe) <| r1 44 (qm 3<|qr 5 2<|qr 5 3<|qr 5 4<|q1 (.mks 1 3 [.int .i64 0] [(0,.l 2),(1,.l 4),(2,.l 6)])<|q1 (.app 36 1 (.l 0) (.l 7))<|qv 3<|qe))) <| r1 53 (q1 (.bin .add (.g 40) (ci 1))<|qv 40<|qe))
def c366 : C := rs 0 (qB 1 0<|qS 2 1<|qe) <| rs 6 (qr 1 0<|qr 1 1<|qr 1 2<|qr 1 3<|qr 1 4<|qr 1 5<|qr 1 6<|qr 1 7<|qr 1 8<|qf 1 13<|qg 0<|ql 1<|qf 1 13<|qg 1<|ql 1<|qf 1 13<|qg 2<|ql 1<|qf 1 13<|qg 11<|ql 1<|q1 (.mkb 1 13 [.int .i64 0] [(0,.l 1),(1,.l 3),(2,.l 5),(3,.l 7),(4,.l 9),(5,.l 11),(6,.l 13),(7,.l 15),(8,.l 17),(9,.l 20),(10,.l 23),(11,.l 26),(12,.l 29)])<|qv 3<|qe) <| sq (rs 37 (qf 1 34<|q3 (.load (.v 1) none (.l 0))<|qH false<|q3 (.mov (ci 0))<|qe) <| bk 0 l366_0) <| rs 54 (qm 3<|qr 1 35<|q1 (.app 36 1 (.l 0) (.l 2))<|qv 2<|qe) .ret
def F366 : F := mF 1 [.t 2] none c366
attribute [go_sem] c366 F366
def c367 : C := rs 0 (qF 2<|qe) <| rs 3 (qm 0<|qk .lss 0<|yo<|qm 0<|qk .gtr 1099511627776<|zo 2<|qv 2<|qe) .ret
def F367 : F := mF 1 [.t 2] none c367
attribute [go_sem] c367 F367
def c368 : C := rs 0 (qF 2<|qe) <| rs 3 (qm 0<|qk .geq 1<|ya<|qm 0<|qk .leq 3<|za 2<|qv 2<|qe) .ret
def F368 : F := mF 1 [.t 2] none c368
attribute [go_sem] c368 F368
def c369 : C := rs 0 (qF 3<|qe) <| rs 4 (qm 0<|q1 (.load (.c) none (.g 1))<|qq .lss 0<|yo<|qm 0<|qk .gtr 1099511627776<|zo 3<|qv 3<|qe) .ret
def F369 : F := mF 2 [.t 3] none c369
attribute [go_sem] c369 F369
def l395_0 : C := .loop [] [] [8] [] (lq 19 (qm 5<|qK .leq 3<|qe) 20 0 <| sq (bk 1 (rs 24 (qm 5<|q1 (.call (.k 397) .freeze none [.l 0])<|q1 (.call (.k 401) .borrow none [.l 1])<|q2 23 (.mov (.l 2))<|qx 0<|qy 1<|qw 6<|qD 7<|q1 (.mov (.l 5))<|qe) <| rs 30 (qm 0<|qm 5<|q1 (.call (.k 345) .freeze none [.l 1])<|qm 6<|q1 (.call (.k 43) .freeze none [.l 0,.l 2,.l 3])<|q2 29 (.mov (.l 4))<|qx 0<|qy 1<|qG 8 z_5<|qs 8 7 8 6<|qV 9 7<|qe) <| rs 37 (qm 9<|qK .eql 0<|qe) <| cd 38 (r1 39 (qr 4 1<|qm 5<|qb 8 7<|q1 (.build z_19 [(0,1,.l 2),(1,7,.l 3)])<|q1 (.mks 9 1 z_19 [(0,.l 4)])<|q1 (.app 45 9 (.l 1) (.l 5))<|qf 4 1<|qs 4 1 7 6<|qe)) .skip)) <| r1 21 (qm 5<|qk .add 1<|qv 5<|qe))
def c395 : C := rs 0 (qG 2 z_20<|qz 3 0<|qe) <| i1 10 (qm 0<|qk .lss 1<|yo<|qm 0<|qk .gtr 3<|zO 2<|qe) 15 (rs 16 (q1 (.build z_20 [])<|qt 2 2 0<|qz 3 1<|qe) .ret) <| rs 17 (qm 0<|q1 (.build [.int .i64 0,.nslice 9] [(0,1,.l 0)])<|qG 4 z_21<|qs 4 2 2 1<|qe) <| sq (rs 0 (qz 5 1<|qe) <| bk 0 l395_0) <| rs 47 (qb 4 2<|qt 2 2 0<|qz 3 0<|qe) .ret
def F395 : F := mF 1 [.cell 2 (some 2),.t 3] none c395
attribute [go_sem] c395 F395
def c397 : C := rs 0 (qG 2 z_8<|qe) <| i1 3 (qm 0<|qK .neq 1<|qe) 4 (rs 5 (q1 (.build z_8 [])<|qt 2 5 0<|qe) .ret) <| rs 6 (q1 (.build z_10 [(0,1,.c (.int .i64 1)),(1,1,.c (.int .i64 1)),(4,1,.c (.int .i64 1))])<|q1 (.mks 17 1 z_10 [(0,.l 0)])<|q1 (.build z_8 [(0,1,.l 1)])<|qt 2 5 2<|qe) .ret
def F397 : F := mF 1 [.cell 2 (some 5)] none c397
attribute [go_sem] c397 F397
def l401_0 : C := .loop [] [4,0,10400] [6] [20200] (rs 25 (q3 (.bin .lss (.g 24) (.g 23))<|qe) <| sq (cd 25 .skip <| .exit 0) <| sq (bk 1 (rs 26 (q1 (.iad 17 (.g 22) (.g 24))<|qJ 17<|qG 6 z_10<|qs 6 17 2 1<|qe) <| r1 28 (qb 6 17<|q1 (.rcall 423 [.g 4,.l 0] 0 4 20200)<|qe))) <| r1 30 (q1 (.bin .add (.g 24) (ci 1))<|qv 24<|qe))
def c401 : C := rs 0 (qB 1 0<|qE 2<|qz 3 0<|qe) <| i1 7 (qb 1 5<|qc 249<|qN<|qe) 9 (rs 0 (qE 2<|qz 3 1<|qe) .ret) <| rs 4 (q3 (.allo [.nslice 1] 10400)<|qe) <| rs 10 (qR 1 1 3<|q1 (.mks 3 1 z_3 [(0,.l 1)])<|q1 (.rcall 421 [.g 4,.l 2] 0 4 20000)<|qe) <| rs 14 (qr 1 4<|qr 1 0<|qh false<|q1 (.mks 1 2 [.int .i64 0] [(0,.l 1),(1,.l 4)])<|q1 (.rcall 422 [.g 4,.l 5] 0 4 20100)<|qe) <| sq (rs 21 (qf 1 0<|q3 (.load (.v 1) none (.l 0))<|qH false<|q3 (.mov (ci 0))<|qe) <| bk 0 l401_0) <| rs 31 (qr 4 0<|q1 (.b2s (.l 1))<|qv 2<|qz 3 0<|qe) .ret
def F401 : F := mF 1 [.t 2,.t 3] none c401
attribute [go_sem] c401 F401
def l407_0 : C := .loop [] [] [6] [] (rs 15 (q3 (.bin .lss (.g 14) (.g 13))<|qe) <| sq (cd 15 .skip <| .exit 0) <| sq (bk 1 (rs 16 (q1 (.iad 9 (.g 12) (.g 14))<|qJ 9<|qG 6 z_19<|qs 6 9 2 1<|qe) <| r2 18 (qm 4<|qr 6 0<|qR 6 1 7<|qc 51<|qC 429 (ls [2,5])<|q1 (.app 4 36 (.l 0) (.l 6))<|qv 4<|qe))) <| r1 26 (q1 (.bin .add (.g 14) (ci 1))<|qv 14<|qe))
def c407 : C := rs 0 (qB 1 0<|qG 2 z_20<|qS 3 36<|qe) <| rs 4 (q3 (.mko 36)<|qe) <| i1 7 (qb 1 2<|qc 408<|qN<|qe) 9 (rs 10 (qb 1 2<|qt 2 2 0<|qS 3 36<|qe) .ret) <| sq (rs 11 (qf 1 1<|q3 (.load (.v 1) none (.l 0))<|qH false<|q3 (.mov (ci 0))<|qe) <| bk 0 l407_0) <| rs 27 (qb 1 2<|qm 4<|qt 2 2 0<|qw 3<|qe) .ret
def F407 : F := mF 1 [.cell 2 (some 2),.t 3] none c407
attribute [go_sem] c407 F407
def l408_0 : C := .loop [] [] [5] [] (rs 10 (q3 (.bin .lss (.g 9) (.g 8))<|qe) <| sq (cd 10 .skip <| .exit 0) <| sq (bk 1 (rs 11 (q1 (.iad 9 (.g 7) (.g 9))<|qJ 9<|qG 5 z_19<|qs 5 9 2 1<|qe) <| i1 13 (qr 5 0<|qm 3<|qq .leq 1<|yo<|qr 5 0<|qc 368<|qn<|zo 4<|yo<|qf 5 1<|qg 0<|ql 5<|qr 1 0<|qq .neq 13<|zo 10<|yo<|qR 5 1 7<|qc 39<|qn<|zo 18<|yo<|qf 5 1<|qg 4<|ql 5<|qc 430<|qn<|zo 24<|yo<|qf 5 1<|qg 5<|ql 5<|qc 430<|qn<|zO 31<|qe) 50 (rs 0 (qF 2<|qe) .ret) <| i1 51 (qr 5 8<|qh false<|qk .gtr 0<|ya<|qR 5 1 7<|qc 41<|qn<|za 4<|yo<|qr 5 8<|q1 (.fn 431 [.g 1] [1])<|qd 432<|zO 10<|qe) 66 (rs 0 (qF 2<|qe) .ret) <| r1 67 (qr 5 0<|qv 3<|qe))) <| r1 69 (q1 (.bin .add (.g 9) (ci 1))<|qv 9<|qe))
def c408 : C := rs 0 (qB 1 0<|qF 2<|qe) <| rs 0 (qz 3 0<|qe) <| sq (rs 6 (qf 1 1<|q3 (.load (.v 1) none (.l 0))<|qH false<|q3 (.mov (ci 0))<|qe) <| bk 0 l408_0) <| rs 70 (qr 1 0<|qk .geq 1<|ya<|qr 1 0<|qk .leq 3<|za 3<|qv 2<|qe) .ret
def F408 : F := mF 1 [.t 2] none c408
attribute [go_sem] c408 F408
def c413 : C := rs 0 (qB 3 0<|qB 5 2<|qG 6 z_20<|qS 7 36<|qe) <| i1 14 (qb 3 2<|qc 408<|qn<|yo<|qb 5 36<|qc 341<|qn<|zo 3<|yo<|qm 1<|qk .lss 0<|zo 8<|yo<|qm 1<|qk .gtr 1099511627776<|zo 12<|yo<|qr 5 2<|qr 3 0<|qq .neq 18<|zO 16<|qe) 36 (rs 37 (qb 3 2<|qt 6 2 0<|qS 7 36<|qe) .ret) <| sq (rs 38 (qf 5 0<|q3 (.load (.v 5) none (.l 0))<|qe) <| bk 0 (sq (rs 41 (q1 (.bin .eql (.g 39) (ci 35))<|qv 40<|qe) <| cd 40 .skip <| rs 42 (q1 (.bin .eql (.g 39) (ci 36))<|qv 40<|qe) <| cd 40 .skip <| r1 43 (q1 (.bin .eql (.g 39) (ci 37))<|qv 40<|qe)) <| cd 40 (rs 44 (qb 3 2<|qb 5 36<|qd 437<|qx 0<|qy 1<|qt 6 2 3<|qw 7<|qe) .ret) <| rs 50 (q1 (.bin .eql (.g 39) (ci 33))<|qv 49<|qe) <| cd 49 (rs 51 (qb 3 2<|qb 5 36<|qd 438<|qx 0<|qy 1<|qt 6 2 3<|qw 7<|qe) .ret) .skip)) <| rs 57 (qb 3 2<|qr 5 7<|qC 427 (ls [0,2])<|q2 56 (.mov (.l 3))<|qx 0<|qy 1<|qG 8 z_19<|qs 8 9 7 5<|qV 9 6<|qe) <| i1 63 (qm 9<|qn<|yo<|qR 8 1 7<|qc 40<|qn<|zO 2<|qe) 70 (i1 71 (qr 5 0<|qK .eql 1<|qe) 73 (rt 74 (qb 3 2<|qb 3 2<|qb 5 36<|q1 (.build z_9 [(0,1,.c (.int .i64 10))])<|qC 439 (ls [1,2,3])<|q1 (.mks 36 1 z_16 [(0,.l 4)])<|qt 6 2 0<|qw 7<|qe) .ret) <| rs 80 (qb 3 2<|qt 6 2 0<|qS 7 36<|qe) .ret) <| i1 81 (qR 8 1 7<|q3 (.call (.k 41) .no none [.l 1])<|qe) 83 (rs 84 (qb 3 2<|qt 6 2 0<|qS 7 36<|qe) .ret) <| rs 86 (qf 8 1<|qg 4<|ql 8<|qc 428<|q2 85 (.mov (.l 3))<|qx 0<|qy 1<|qG 10 z_8<|qs 10 5 7 5<|qD 11<|q1 (.mov (.l 6))<|qe) <| sq (rs 92 (qf 5 0<|q3 (.load (.v 5) none (.l 0))<|qe) <| bk 1 (rs 95 (q1 (.bin .eql (.g 93) (ci 1))<|qv 94<|qe) <| cd 94 (rs 96 (qb 3 2<|qb 8 9<|qb 10 5<|qm 1<|qb 5 36<|qC 440 (ls [0,1,2,3,4])<|qx 0<|qy 1<|qt 6 2 6<|qw 7<|qe) .ret) <| rs 105 (q1 (.bin .eql (.g 93) (ci 14))<|qv 104<|qe) <| cd 104 (rt 106 (qb 3 2<|qb 3 2<|qb 10 5<|qb 5 36<|qC 441 (ls [1,2,3])<|qt 6 2 0<|qw 7<|qe) .ret) <| rs 112 (q1 (.bin .eql (.g 93) (ci 30))<|qv 111<|qe) <| cd 111 (i1 113 (qR 5 9 3<|qR 10 1 3<|qC 15 (ls [1,3])<|qK .leq 0<|qe) 118 (rt 119 (qb 3 2<|qr 3 0<|qr 5 7<|qR 10 1 3<|q1 (.build z_16 [(0,1,.c (.int .i64 31)),(1,1,.l 2),(7,1,.l 4),(9,3,.l 6)])<|q1 (.mks 36 1 z_16 [(0,.l 7)])<|qt 6 2 0<|qw 7<|qe) .ret) <| rt 128 (qb 3 2<|qb 8 9<|qb 10 5<|qR 5 9 3<|qC 261 (ls [2,4])<|qr 3 0<|qr 5 7<|qR 5 9 3<|q1 (.build z_16 [(0,1,.c (.int .i64 31)),(1,1,.l 7),(7,1,.l 9),(9,3,.l 11)])<|q1 (.mks 36 1 z_16 [(0,.l 12)])<|qC 442 (ls [0,1,5,13])<|qx 0<|qy 1<|qt 6 2 15<|qw 7<|qe) .ret) <| rs 146 (q1 (.bin .eql (.g 93) (ci 32))<|qv 145<|qe) <| cd 145 (rs 147 (qb 3 2<|qb 8 9<|qb 10 5<|qb 5 36<|qC 443 (ls [0,1,2,3])<|qx 0<|qy 1<|qt 6 2 5<|qw 7<|qe) .ret) .skip)) <| rs 155 (qb 3 2<|qb 10 5<|qb 5 36<|qC 444 (ls [0,1,2])<|q2 154 (.mov (.l 3))<|qx 0<|qy 1<|qY 4 2<|qG 12 z_8<|qG 13 z_16<|qs 12 5 8 5<|qs 13 36 9 6<|qV 9 7<|qe) <| i1 162 (qm 9<|qN<|qe) 163 (rs 164 (qb 3 2<|qt 6 2 0<|qS 7 36<|qe) .ret) <| rt 165 (qr 3 0<|qr 5 7<|qf 13 1<|qs 13 1 4 1<|qf 13 7<|qs 13 1 6 3<|qe) <| rs 171 (qb 3 2<|qb 8 9<|qb 12 5<|qb 13 36<|q1 (.mks 36 1 z_16 [(0,.l 3)])<|qC 442 (ls [0,1,2,4])<|qx 0<|qy 1<|qt 6 2 6<|qw 7<|qe) .ret
def F413 : F := mF 3 [.cell 6 (some 2),.t 7] none c413
attribute [go_sem] c413 F413
def l421_0 : C := .loop [] [0,0,9000] [5] [] (rs 11 (q3 (.bin .lss (.g 10) (.g 9))<|qe) <| sq (cd 11 .skip <| .exit 0) <| sq (bk 1 (rs 12 (q1 (.iad 3 (.g 8) (.g 10))<|qJ 3<|qG 5 z_3<|qs 5 3 2 1<|qe) <| rs 15 (qb 5 3<|qc 455<|q2 14 (.mov (.l 1))<|qx 0<|qy 1<|qw 6<|qD 7<|q1 (.mov (.l 4))<|qe) <| r1 19 (qm 0<|qm 0<|q1 (.nilc (.l 1))<|qg 0<|ql 0<|qm 6<|q1 (.appd 1 (.l 4) (.l 5))<|q1 (.nilc (.l 0))<|qg 0<|qs 0 1 8 6<|qe))) <| r1 28 (q1 (.bin .add (.g 10) (ci 1))<|qv 10<|qe))
def c421 : C := rs 8 (q3 (.mov (.g 1))<|qH false<|q3 (.mov (ci 0))<|qe) <| bk 0 l421_0
def F421 : F := mF 2 [] none c421
attribute [go_sem] c421 F421
def l422_0 : C := .loop [] [0,0,9000] [] [] (rs 11 (q3 (.bin .lss (.g 10) (.g 9))<|qe) <| sq (cd 11 .skip <| .exit 0) <| sq (bk 1 (rs 12 (q1 (.iad 1 (.g 8) (.g 10))<|qj<|qv 5<|qe) <| rs 15 (qm 5<|qc 456<|q2 14 (.mov (.l 1))<|qx 0<|qy 1<|qw 6<|qD 7<|q1 (.mov (.l 4))<|qe) <| r1 19 (qm 0<|qm 0<|q1 (.nilc (.l 1))<|qg 0<|ql 0<|qm 6<|q1 (.appd 1 (.l 4) (.l 5))<|q1 (.nilc (.l 0))<|qg 0<|qs 0 1 8 6<|qe))) <| r1 28 (q1 (.bin .add (.g 10) (ci 1))<|qv 10<|qe))
def c422 : C := rs 8 (q3 (.mov (.g 1))<|qH false<|q3 (.mov (ci 0))<|qe) <| bk 0 l422_0
def F422 : F := mF 2 [] none c422
attribute [go_sem] c422 F422
def l423_1 : C := .loop [] [0,0,9000] [7] [20600,20700,20800] (rs 71 (q3 (.bin .lss (.g 70) (.g 69))<|qe) <| sq (cd 71 .skip <| .exit 2) <| sq (bk 3 (rs 72 (q1 (.iad 5 (.g 68) (.g 70))<|qJ 5<|qG 7 z_2<|qs 7 5 2 1<|qe) <| rs 74 (qm 0<|qR 7 0 3<|q1 (.mks 3 1 z_3 [(0,.l 2)])<|q1 (.rcall 421 [.l 0,.l 3] 0 0 20600)<|qe) <| rs 79 (qm 0<|qr 7 3<|q1 (.rcall 458 [.l 0,.l 2] 0 0 20700)<|qe) <| r1 83 (qm 0<|qr 7 4<|q1 (.mks 1 1 [.str []] [(0,.l 2)])<|q1 (.rcall 457 [.l 0,.l 3] 0 0 20800)<|qe))) <| r1 88 (q1 (.bin .add (.g 70) (ci 1))<|qv 70<|qe))
def l423_0 : C := .loop [] [0,0,9000] [5,7] [20400,20500,20600,20700,20800] (rs 53 (q3 (.bin .lss (.g 52) (.g 51))<|qe) <| sq (cd 53 .skip <| .exit 0) <| sq (bk 1 (rs 54 (q1 (.iad 2 (.g 50) (.g 52))<|qJ 2<|qG 5 z_7<|qs 5 2 2 1<|qe) <| rs 56 (qm 0<|qr 5 0<|q1 (.mks 1 1 [.str []] [(0,.l 2)])<|q1 (.rcall 457 [.l 0,.l 3] 0 0 20400)<|qe) <| rs 61 (qm 0<|qr 5 1<|qh false<|q1 (.mks 1 1 [.int .i64 0] [(0,.l 3)])<|q1 (.rcall 422 [.l 0,.l 4] 0 0 20500)<|qe) <| rs 67 (qf 5 1<|q3 (.load (.v 5) none (.l 0))<|qH false<|q3 (.mov (ci 0))<|qe) <| bk 2 l423_1)) <| r1 89 (q1 (.bin .add (.g 52) (ci 1))<|qv 52<|qe))
def l423_2 : C := .loop [] [0,0,9000] [9] [21000,21100,21200,21300] (rs 100 (q3 (.bin .lss (.g 99) (.g 98))<|qe) <| sq (cd 100 .skip <| .exit 4) <| sq (bk 5 (rs 101 (q1 (.iad 11 (.g 97) (.g 99))<|qJ 11<|qG 9 z_4<|qs 9 11 2 1<|qe) <| rs 103 (qm 0<|qr 9 0<|qr 9 1<|qf 9 2<|qg 0<|ql 9<|q1 (.mks 1 3 [.int .i64 0] [(0,.l 2),(1,.l 4),(2,.l 7)])<|q1 (.rcall 422 [.l 0,.l 8] 0 0 21000)<|qe) <| rs 113 (qm 0<|qf 9 2<|qg 1<|q1 (.load (.v 9) (some 3) (.l 2))<|q1 (.mks 3 1 z_3 [(0,.l 3)])<|q1 (.rcall 421 [.l 0,.l 4] 0 0 21100)<|qe) <| rs 119 (qm 0<|qf 9 2<|qg 4<|ql 9<|q1 (.rcall 458 [.l 0,.l 3] 0 0 21200)<|qe) <| r1 124 (qm 0<|qf 9 2<|qg 5<|ql 9<|q1 (.mks 1 1 [.str []] [(0,.l 3)])<|q1 (.rcall 457 [.l 0,.l 4] 0 0 21300)<|qe))) <| r1 130 (q1 (.bin .add (.g 99) (ci 1))<|qv 99<|qe))
def c423 : C := rs 0 (qB 3 1<|qe) <| rs 10 (qm 0<|qr 3 0<|qr 3 1<|qr 3 4<|qr 3 13<|qr 3 14<|qr 3 15<|qr 3 16<|q1 (.mks 1 7 [.int .i64 0] [(0,.l 2),(1,.l 4),(2,.l 6),(3,.l 8),(4,.l 10),(5,.l 12),(6,.l 14)])<|q1 (.rcall 422 [.l 0,.l 15] 0 0 20000)<|qe) <| rs 27 (qm 0<|qf 3 2<|qg 0<|ql 3<|qf 3 2<|qg 1<|ql 3<|q1 (.mks 1 2 [.str []] [(0,.l 3),(1,.l 6)])<|q1 (.rcall 457 [.l 0,.l 7] 0 0 20100)<|qe) <| rs 36 (qm 0<|qR 3 6 3<|qR 3 9 3<|q1 (.mks 3 2 z_3 [(0,.l 2),(1,.l 4)])<|q1 (.rcall 421 [.l 0,.l 5] 0 0 20200)<|qe) <| rs 43 (qm 0<|qr 3 5<|qh false<|q1 (.mks 1 1 [.int .i64 0] [(0,.l 3)])<|q1 (.rcall 422 [.l 0,.l 4] 0 0 20300)<|qe) <| sq (rs 49 (qf 3 5<|q3 (.load (.v 3) none (.l 0))<|qH false<|q3 (.mov (ci 0))<|qe) <| bk 0 l423_0) <| rs 90 (qm 0<|qr 3 12<|qh false<|q1 (.mks 1 1 [.int .i64 0] [(0,.l 3)])<|q1 (.rcall 422 [.l 0,.l 4] 0 0 20900)<|qe) <| rs 96 (qf 3 12<|q3 (.load (.v 3) none (.l 0))<|qH false<|q3 (.mov (ci 0))<|qe) <| bk 4 l423_2
def F423 : F := mF 2 [] none c423
attribute [go_sem] c423 F423
def c427 : C := rs 0 (qB 2 0<|qB 3 1<|qG 4 z_19<|qF 5<|qe) <| rs 7 (qr 2 1<|q1 (.fn 462 [.g 3] [3])<|qd 463<|qv 6<|qe) <| i1 11 (qm 6<|qK .lss 0<|qe) 12 (rs 13 (q1 (.load (.v 3) none (.g 3))<|qr 2 0<|q1 (.build z_5 [(0,1,.l 2)])<|q1 (.build z_19 [(0,1,.l 0),(1,7,.l 3)])<|qt 4 9 4<|qF 5<|qe) .ret) <| rs 18 (qr 2 1<|qm 6<|qi 9<|qJ 9<|qt 4 9 4<|qT 5<|qe) .ret
def F427 : F := mF 2 [.cell 4 (some 9),.t 5] none c427
attribute [go_sem] c427 F427
def l428_0 : C := .loop [] [] [] [] (rs 17 (q3 (.bin .lss (.g 16) (.g 15))<|qe) <| sq (cd 17 .skip <| .exit 0) <| sq (bk 1 (r2 18 (qr 5 0<|qm 4<|q1 (.rcall 467 [.l 2] 0 8 20300)<|q1 (.mks 17 1 z_10 [(0,.l 3)])<|q1 (.app 23 17 (.l 1) (.l 4))<|qf 5 0<|qs 5 1 6 5<|qe))) <| r1 25 (q1 (.bin .add (.g 16) (ci 1))<|qv 16<|qe))
def c428 : C := rs 0 (qG 2 z_8<|qz 3 0<|qe) <| rs 6 (qm 0<|q1 (.build z_22 [(0,1,.l 0)])<|q1 (.box (.l 1))<|qv 4<|qe) <| rs 9 (qm 4<|q1 (.rcall 464 [.l 0] 0 8 20000)<|qm 4<|q1 (.rcall 465 [.l 2] 0 8 20100)<|q1 (.build [.nslice 17,.int .i64 0,.int .i64 0,.int .i64 0,.int .i64 0] [(1,3,.l 1),(4,1,.l 3)])<|qG 5 z_23<|qs 5 5 5 4<|qe) <| sq (rs 14 (qm 4<|q3 (.rcall 466 [.l 0] 0 8 20200)<|q3 (.mov (ci 0))<|qe) <| bk 0 l428_0) <| i1 26 (qm 4<|q1 (.nilc (.l 0))<|qg 1<|ql 8<|yo<|qm 4<|q1 (.nilc (.l 5))<|qg 0<|ql 8<|q1 (.bin .neq (.l 8) (.c (.str [])))<|zo 4<|yo<|qb 5 5<|q1 (.call (.k 249) .borrow none [.l 12])<|qn<|zO 11<|qe) 41 (rs 42 (q1 (.build z_8 [])<|qt 2 5 0<|qz 3 3<|qe) .ret) <| rs 43 (qb 5 5<|qt 2 5 0<|qz 3 0<|qe) .ret
def F428 : F := mF 1 [.cell 2 (some 5),.t 3] none c428
attribute [go_sem] c428 F428
def l429_0 : C := .loop [] [] [7] [] (rs 11 (q3 (.bin .lss (.g 10) (.g 9))<|qe) <| sq (cd 11 .skip <| .exit 0) <| sq (bk 1 (rs 12 (q1 (.iad 7 (.g 8) (.g 10))<|qJ 7<|qG 7 z_6<|qs 7 7 2 1<|qe) <| r1 14 (qm 5<|qr 7 0<|q1 (.bin .add (ci 35) (.l 2))<|qk .sub 1<|qr 7 1<|qr 7 2<|qm 0<|qr 7 3<|qr 7 4<|qr 7 5<|qr 7 6<|q1 (.build z_16 [(0,1,.l 4),(1,1,.l 6),(2,1,.l 8),(7,1,.l 9),(4,1,.l 11),(8,1,.l 13),(35,1,.l 15),(12,1,.l 17)])<|q1 (.mks 36 1 z_16 [(0,.l 18)])<|q1 (.app 5 36 (.l 0) (.l 19))<|qv 5<|qe))) <| r1 35 (q1 (.bin .add (.g 10) (ci 1))<|qv 10<|qe))
def c429 : C := rs 0 (qS 4 36<|qe) <| rs 5 (q3 (.mko 36)<|qe) <| sq (rs 8 (q3 (.mov (.g 1))<|qH false<|q3 (.mov (ci 0))<|qe) <| bk 0 l429_0) <| rs 36 (qm 5<|qv 4<|qe) .ret
def F429 : F := mF 2 [.t 4] (some 0) c429
attribute [go_sem] c429 F429
def c430 : C := rs 0 (qF 2<|qe) <| rs 6 (qm 0<|qc 428<|q2 5 (.mov (.l 1))<|qx 0<|qy 1<|qD 3<|q1 (.alloc z_8)<|qs 3 5 5 3<|q3 (.mov (.l 4))<|qe) <| rs 10 (qm 4<|qk .eql 0<|qv 2<|qe) .ret
def F430 : F := mF 1 [.t 2] none c430
attribute [go_sem] c430 F430
def c431 : C := rs 0 (qB 2 0<|qF 3<|qe) <| rs 4 (qb 2 36<|qc 341<|qn<|yo<|qr 2 1<|qf 1 0<|qj<|qq .neq 5<|zo 3<|qv 3<|qe) .ret
def F431 : F := mF 2 [.t 3] none c431
attribute [go_sem] c431 F431
def c432 : C := rs 0 (qF 4<|qe) <| rs 5 (qm 0<|qm 1<|qd 468<|qk .geq 0<|qv 4<|qe) .ret
def F432 : F := mF 2 [.t 4] none c432
attribute [go_sem] c432 F432
def c437 : C := rs 0 (qB 2 0<|qB 3 1<|qG 4 z_20<|qS 5 36<|qe) <| rs 13 (qb 2 2<|qr 3 7<|qC 427 (ls [0,2])<|q2 12 (.mov (.l 3))<|qx 0<|qy 1<|qG 6 z_19<|qs 6 9 7 5<|qV 7 6<|qe) <| i1 19 (qm 7<|qn<|ya<|qr 3 7<|qc 368<|qn<|zA 2<|qe) 26 (rs 27 (qb 2 2<|qt 4 2 0<|qS 5 36<|qe) .ret) <| i1 28 (qr 3 0<|qk .eql 35<|ya<|qr 3 12<|qc 430<|qn<|zA 3<|qe) 36 (rs 37 (qb 2 2<|qt 4 2 0<|qS 5 36<|qe) .ret) <| rs 38 (qR 6 1 7<|qc 41<|qv 8<|qe) <| rs 42 (qR 6 1 7<|qr 3 0<|qk .sub 35<|qk .add 1<|qr 3 1<|qr 3 2<|qr 3 4<|qr 3 8<|qr 3 35<|qr 3 12<|q1 (.build z_6 [(0,1,.l 5),(1,1,.l 7),(2,1,.l 9),(3,1,.l 11),(4,1,.l 13),(5,1,.l 15),(6,1,.l 17)])<|qC 57 (ls [1,18])<|q2 41 (.mov (.l 19))<|qx 0<|qy 1<|qG 9 z_5<|qs 9 7 23 21<|qV 10 22<|qe) <| i1 64 (qm 7<|qn<|ya<|qr 9 1<|qk .eql 0<|zA 2<|qe) 70 (rs 71 (qb 2 2<|qt 4 2 0<|qS 5 36<|qe) .ret) <| rs 72 (qr 3 7<|qm 10<|q1 (.call (.k 429) .no (some 0) [.l 1,.l 2])<|qv 11<|qe) <| rs 76 (qb 9 7<|qf 6 1<|qs 6 7 1 0<|qe) <| i1 78 (qb 9 7<|qc 41<|qN<|qe) 80 (i1 81 (qm 8<|ya<|qb 9 7<|qc 40<|zA 1<|qe) 85 (r1 86 (qm 11<|qr 6 8<|q1 (.app 75 36 (.l 0) (.l 2))<|qv 11<|qe)) <| r1 90 (qf 6 8<|q5 (.store (.v 6) 1 (.l 0) (.c (.slice 36 [])))<|qe)) <| rs 91 (qb 2 2<|qb 6 9<|qd 473<|qm 11<|qt 4 2 2<|qw 5<|qe) .ret
def F437 : F := mF 2 [.cell 4 (some 2),.t 5] none c437
attribute [go_sem] c437 F437
def c439 : C := rs 0 (qB 3 0<|qB 4 1<|qB 5 2<|qG 6 z_16<|qe) <| rs 7 (qr 3 0<|qr 4 1<|qr 4 7<|qf 4 13<|qg 0<|ql 4<|qf 4 13<|qg 1<|ql 4<|q1 (.build z_24 [(0,1,.l 8),(1,1,.l 11)])<|qb 5 9<|q1 (.build z_16 [(0,1,.c (.int .i64 2)),(1,1,.l 1),(2,1,.l 3),(7,1,.l 5),(13,12,.l 12),(25,9,.l 13)])<|qt 6 36 14<|qe) .ret
def F439 : F := mF 3 [.cell 6 (some 36)] none c439
attribute [go_sem] c439 F439
def c440 : C := rs 0 (qB 5 0<|qB 6 1<|qB 7 2<|qB 9 4<|qG 10 z_20<|qS 11 36<|qe) <| rs 18 (qR 7 1 3<|qG 12 z_3<|qs 12 3 2 1<|qe) <| rs 20 (qr 5 0<|qf 12 2<|qs 12 1 2 1<|qe) <| rs 24 (qb 12 3<|q1 (.build z_3 [(0,3,.l 0)])<|qm 3<|qd 474<|q2 23 (.mov (.l 3))<|qx 0<|qy 1<|qY 4 2<|qD 13<|q1 (.alloc z_3)<|q3 (.alloc z_3)<|qs 13 3 8 5<|qs 14 3 9 6<|q3 (.mov (.l 7))<|qe) <| i1 31 (qm 15<|qK .neq 0<|qe) 32 (rt 33 (qb 5 2<|qb 5 2<|qb 9 36<|qm 15<|q1 (.build z_9 [(0,1,.l 3)])<|qC 439 (ls [1,2,4])<|q1 (.mks 36 1 z_16 [(0,.l 5)])<|qt 10 2 0<|qw 11<|qe) .ret) <| rs 41 (qb 7 5<|qr 9 3<|qr 9 4<|qR 9 13 12<|qb 14 3<|qm 3<|qC 240 (ls [0,2,4,6,7,8])<|q2 40 (.mov (.l 9))<|qx 0<|qy 1<|qG 16 z_8<|qG 17 z_9<|qs 16 5 13 11<|qs 17 9 14 12<|qe) <| i1 53 (qr 17 0<|qk .neq 0<|ya<|qr 17 0<|qk .neq 15<|zA 3<|qe) 60 (rt 61 (qb 5 2<|qb 5 2<|qb 9 36<|qb 17 9<|qC 439 (ls [1,2,3])<|q1 (.mks 36 1 z_16 [(0,.l 4)])<|qt 10 2 0<|qw 11<|qe) .ret) <| rt 67 (qb 5 2<|qb 6 9<|qb 16 5<|qb 5 2<|qb 9 36<|qb 17 9<|qC 439 (ls [3,4,5])<|q1 (.mks 36 1 z_16 [(0,.l 6)])<|qC 442 (ls [0,1,2,7])<|qx 0<|qy 1<|qt 10 2 9<|qw 11<|qe) .ret
def F440 : F := mF 5 [.cell 10 (some 2),.t 11] none c440
attribute [go_sem] c440 F440
def c442 : C := rs 0 (qB 4 0<|qB 5 1<|qB 6 2<|qG 8 z_20<|qS 9 36<|qe) <| rs 17 (qb 6 5<|qc 401<|q2 16 (.mov (.l 1))<|qx 0<|qy 1<|qw 10<|qD 11<|q1 (.mov (.l 4))<|qe) <| rs 22 (qR 5 1 7<|qm 10<|qd 47<|q2 21 (.mov (.l 3))<|qx 0<|qy 1<|qY 4 2<|qG 12 z_5<|qs 12 7 8 5<|qV 13 6<|qV 14 7<|qe) <| i1 29 (qm 14<|qK .neq 0<|qe) 30 (rs 31 (qb 4 2<|qt 8 2 0<|qS 9 36<|qe) .ret) <| rs 32 (qr 5 0<|qm 13<|q1 (.call (.k 429) .no (some 0) [.l 1,.l 2])<|qv 15<|qe) <| rs 36 (qb 12 7<|qm 3<|qf 5 1<|qs 5 7 2 0<|qf 5 8<|qs 5 1 4 1<|qe) <| i1 40 (qb 12 7<|qc 41<|qN<|qe) 42 (r1 43 (qm 15<|qm 3<|q1 (.app 35 36 (.l 0) (.l 1))<|qv 15<|qf 5 8<|q5 (.store (.v 5) 1 (.l 4) (.c (.slice 36 [])))<|qe)) <| rs 47 (qb 4 2<|qb 5 9<|qd 473<|qm 15<|qt 8 2 2<|qw 9<|qe) .ret
def F442 : F := mF 4 [.cell 8 (some 2),.t 9] none c442
attribute [go_sem] c442 F442
def c455 : C := rs 0 (qB 1 0<|qE 2<|qz 3 0<|qe) <| i1 4 (qb 1 3<|qc 28<|qN<|qe) 6 (rs 0 (qE 2<|qz 3 1<|qe) .ret) <| rs 7 (qr 1 0<|qr 1 1<|qr 1 2<|q1 (.mks 1 3 [.int .i64 0] [(0,.l 1),(1,.l 3),(2,.l 5)])<|qc 483<|qx 0<|qy 1<|qw 2<|qw 3<|qe) .ret
def F455 : F := mF 1 [.t 2,.t 3] none c455
attribute [go_sem] c455 F455
def l456_0 : C := .loop [] [] [] [] (lq 7 (qm 0<|qK .geq 128<|qe) 8 0 <| bk 1 (rs 9 (qm 4<|qm 0<|q1 (.conv (.int .u8) (.l 1))<|q1 (.bin .or (.l 2) (.c (.int .u8 128)))<|q1 (.mks 1 1 [.int .u8 0] [(0,.l 3)])<|q1 (.app 4 1 (.l 0) (.l 4))<|qv 4<|qe) <| r1 15 (qm 0<|q1 (.sh .shr (.l 0) (.c (.int .u64 7)))<|qv 0<|qe)))
def c456 : C := rs 0 (qE 2<|qz 3 0<|qe) <| i1 5 (qm 0<|qK .lss 0<|qe) 6 (rs 0 (qE 2<|qz 3 1<|qe) .ret) <| rs 4 (q3 (.mko 1)<|qe) <| sq (bk 0 l456_0) <| rs 17 (qm 4<|qm 0<|q1 (.conv (.int .u8) (.l 1))<|q1 (.mks 1 1 [.int .u8 0] [(0,.l 2)])<|q1 (.app 4 1 (.l 0) (.l 3))<|q1 (.b2s (.l 4))<|qv 2<|qz 3 0<|qe) .ret
def F456 : F := mF 1 [.t 2,.t 3] none c456
attribute [go_sem] c456 F456
def l457_0 : C := .loop [] [0,0,9000] [] [] (rs 9 (q3 (.bin .lss (.g 8) (.g 7))<|qe) <| sq (cd 9 .skip <| .exit 0) <| sq (bk 1 (rs 10 (q1 (.iad 1 (.g 6) (.g 8))<|qj<|qv 5<|qe) <| r2 12 (qm 0<|qm 0<|q1 (.nilc (.l 1))<|qg 0<|ql 0<|qm 5<|qc 484<|q1 (.appd 1 (.l 4) (.l 6))<|q1 (.nilc (.l 0))<|qg 0<|qs 0 1 9 7<|qe))) <| r1 22 (q1 (.bin .add (.g 8) (ci 1))<|qv 8<|qe))
def c457 : C := rs 6 (q3 (.mov (.g 1))<|qH false<|q3 (.mov (ci 0))<|qe) <| bk 0 l457_0
def F457 : F := mF 2 [] none c457
attribute [go_sem] c457 F457
def c458 : C := r2 4 (qm 0<|qm 0<|q1 (.nilc (.l 1))<|qg 0<|ql 0<|qm 1<|qc 485<|q1 (.appd 1 (.l 4) (.l 6))<|q1 (.nilc (.l 0))<|qg 0<|qs 0 1 9 7<|qe)
def F458 : F := mF 2 [] none c458
attribute [go_sem] c458 F458
def c462 : C := rs 0 (qB 2 0<|qF 3<|qe) <| rs 4 (qr 2 0<|q1 (.load (.c) none (.g 1))<|qq .eql 1<|qv 3<|qe) .ret
def F462 : F := mF 2 [.t 3] none c462
attribute [go_sem] c462 F462
def l463_0 : C := .loop [] [] [] [] (rs 9 (q3 (.bin .lss (.g 8) (.g 7))<|qe) <| sq (cd 9 .skip <| .exit 0) <| sq (bk 1 (rs 10 (qm 8<|qv 5<|qe) <| rs 11 (qm 1<|qm 0<|qm 5<|qi 9<|qJ 9<|q3 (.call (.v (.l 0)) .no none [.l 4])<|qe) <| cd 16 (rs 17 (qm 5<|qv 4<|qe) .ret) .skip)) <| r1 18 (q1 (.bin .add (.g 8) (ci 1))<|qv 8<|qe))
def c463 : C := rs 0 (qz 4 0<|qe) <| sq (rs 6 (qm 0<|qH false<|q3 (.mov (ci 0))<|qe) <| bk 0 l463_0) <| rs 0 (qz 4 (-1)<|qe) .ret
def F463 : F := mF 2 [.t 4] none c463
attribute [go_sem] c463 F463
def c464 : C := rs 0 (qG 2 z_3<|qe) <| rs 7 (qm 0<|q1 (.nilc (.l 0))<|qg 0<|ql 0<|qc 490<|q2 6 (.mov (.l 4))<|qx 0<|qy 1<|qY 5 2<|qG 3 z_3<|qs 3 3 9 6<|qV 4 7<|qV 5 8<|qe) <| i1 15 (qm 0<|q1 (.nilc (.l 0))<|qg 1<|ql 0<|yo<|qm 5<|qk .neq 0<|zO 4<|qe) 22 (rs 23 (qm 0<|q1 (.nilc (.l 0))<|qg 1<|q5 (.store (.v 0) 1 (.l 2) (cb true))<|qe) <| rs 26 (q1 (.build z_3 [])<|qt 2 3 0<|qe) .ret) <| rs 27 (qm 0<|qm 4<|q1 (.nilc (.l 0))<|qg 0<|qs 0 1 3 1<|qe) <| rs 31 (qb 3 3<|qt 2 3 0<|qe) .ret
def F464 : F := mF 1 [.cell 2 (some 3)] none c464
attribute [go_sem] c464 F464
def c465 : C := rs 0 (qz 2 0<|qe) <| rs 7 (qm 0<|q1 (.nilc (.l 0))<|qg 0<|ql 0<|qc 491<|q2 6 (.mov (.l 4))<|qx 0<|qy 1<|qY 5 2<|qV 3 6<|qV 4 7<|qV 5 8<|qe) <| i1 15 (qm 0<|q1 (.nilc (.l 0))<|qg 1<|ql 0<|yo<|qm 5<|qk .neq 0<|zO 4<|qe) 22 (rs 23 (qm 0<|q1 (.nilc (.l 0))<|qg 1<|q5 (.store (.v 0) 1 (.l 2) (cb true))<|qe) <| rs 0 (qz 2 0<|qe) .ret) <| rs 26 (qm 0<|qm 4<|q1 (.nilc (.l 0))<|qg 0<|qs 0 1 3 1<|qe) <| rs 30 (qm 3<|qv 2<|qe) .ret
def F465 : F := mF 1 [.t 2] none c465
attribute [go_sem] c465 F465
def c466 : C := rs 0 (qz 2 0<|qe) <| rs 4 (qm 0<|q1 (.rcall 465 [.l 0] 0 0 20000)<|qv 3<|qe) <| i1 6 (qm 3<|qm 0<|q1 (.nilc (.l 1))<|qg 0<|ql 0<|qh true<|qQ .gtr 0<|qe) 12 (rs 13 (qm 0<|q1 (.nilc (.l 0))<|qg 1<|q5 (.store (.v 0) 1 (.l 2) (cb true))<|qe) <| rs 0 (qz 2 0<|qe) .ret) <| rs 16 (qm 3<|qv 2<|qe) .ret
def F466 : F := mF 1 [.t 2] none c466
attribute [go_sem] c466 F466
def l467_1 : C := .loop [] [] [] [] (rs 51 (q3 (.bin .lss (.g 50) (.g 49))<|qe) <| sq (cd 51 .skip <| .exit 2) <| sq (bk 3 (r2 52 (qr 4 1<|qm 0<|q1 (.rcall 464 [.l 2] 0 0 21400)<|qm 0<|q1 (.rcall 493 [.l 4] 0 0 21500)<|qm 0<|q1 (.rcall 492 [.l 6] 0 0 21600)<|q1 (.build z_2 [(0,3,.l 3),(3,1,.l 5),(4,1,.l 7)])<|q1 (.mks 5 1 z_2 [(0,.l 8)])<|q1 (.app 62 5 (.l 1) (.l 9))<|qf 4 1<|qs 4 1 11 10<|qe))) <| r1 64 (q1 (.bin .add (.g 50) (ci 1))<|qv 50<|qe))
def l467_0 : C := .loop [] [] [4] [62] (rs 44 (q3 (.bin .lss (.g 43) (.g 42))<|qe) <| sq (cd 44 .skip <| .exit 0) <| sq (bk 1 (rs 45 (qm 0<|q1 (.rcall 492 [.l 0] 0 0 21200)<|q1 (.build [.str [],.nslice 5] [(0,1,.l 1)])<|qG 4 z_25<|qs 4 2 3 2<|qe) <| sq (rs 48 (qm 0<|q3 (.rcall 466 [.l 0] 0 0 21300)<|q3 (.mov (ci 0))<|qe) <| bk 2 l467_1) <| r1 65 (qr 3 5<|q1 (.ldf 62 4 2 (.g 4))<|q1 (.mks 2 1 z_7 [(0,.l 2)])<|q1 (.app 69 2 (.l 1) (.l 3))<|qf 3 5<|qs 3 1 5 4<|qe))) <| r1 71 (q1 (.bin .add (.g 43) (ci 1))<|qv 43<|qe))
def l467_2 : C := .loop [] [] [5] [] (rs 75 (q3 (.bin .lss (.g 74) (.g 73))<|qe) <| sq (cd 75 .skip <| .exit 4) <| sq (bk 5 (rs 76 (qm 0<|q1 (.rcall 465 [.l 0] 0 0 21800)<|qm 0<|q1 (.rcall 465 [.l 2] 0 0 21900)<|q1 (.build z_4 [(0,1,.l 1),(1,1,.l 3)])<|qG 5 z_4<|qs 5 11 5 4<|qe) <| rs 81 (qm 0<|q1 (.rcall 465 [.l 0] 0 0 22000)<|qm 0<|q1 (.rcall 464 [.l 2] 0 0 22100)<|qm 0<|q1 (.rcall 493 [.l 4] 0 0 22200)<|qm 0<|q1 (.rcall 492 [.l 6] 0 0 22300)<|q1 (.build z_9 [(0,1,.l 1),(1,3,.l 3),(4,1,.l 5),(5,1,.l 7)])<|qf 5 2<|qs 5 9 9 8<|qe) <| r1 91 (qr 3 12<|qb 5 11<|q1 (.mks 11 1 z_4 [(0,.l 2)])<|q1 (.app 95 11 (.l 1) (.l 3))<|qf 3 12<|qs 3 1 5 4<|qe))) <| r1 97 (q1 (.bin .add (.g 74) (ci 1))<|qv 74<|qe))
def c467 : C := rs 0 (qG 2 z_10<|qe) <| rs 0 (qG 3 z_26<|qe) <| rs 6 (qm 0<|q1 (.rcall 465 [.l 0] 0 0 20000)<|qm 0<|q1 (.rcall 465 [.l 2] 0 0 20100)<|qm 0<|q1 (.rcall 465 [.l 4] 0 0 20200)<|qm 0<|q1 (.rcall 465 [.l 6] 0 0 20300)<|qf 3 0<|qs 3 1 8 1<|qf 3 1<|qs 3 1 10 3<|qf 3 4<|qs 3 1 12 5<|qf 3 13<|qs 3 1 14 7<|qe) <| rs 18 (qm 0<|q1 (.rcall 465 [.l 0] 0 0 20400)<|qm 0<|q1 (.rcall 465 [.l 2] 0 0 20500)<|qm 0<|q1 (.rcall 465 [.l 4] 0 0 20600)<|qf 3 14<|qs 3 1 6 1<|qf 3 15<|qs 3 1 8 3<|qf 3 16<|qs 3 1 10 5<|qe) <| rs 27 (qm 0<|q1 (.rcall 492 [.l 0] 0 0 20700)<|qm 0<|q1 (.rcall 492 [.l 2] 0 0 20800)<|qf 3 2<|qg 0<|qs 3 1 5 1<|qf 3 2<|qg 1<|qs 3 1 8 3<|qe) <| rs 35 (qm 0<|q1 (.rcall 464 [.l 0] 0 0 20900)<|qm 0<|q1 (.rcall 464 [.l 2] 0 0 21000)<|qf 3 6<|qs 3 3 4 1<|qf 3 9<|qs 3 3 6 3<|qe) <| sq (rs 41 (qm 0<|q3 (.rcall 466 [.l 0] 0 0 21100)<|q3 (.mov (ci 0))<|qe) <| bk 0 l467_0) <| sq (rs 72 (qm 0<|q3 (.rcall 466 [.l 0] 0 0 21700)<|q3 (.mov (ci 0))<|qe) <| bk 4 l467_2) <| rs 98 (qb 3 17<|qt 2 17 0<|qe) .ret
def F467 : F := mF 1 [.cell 2 (some 17)] none c467
attribute [go_sem] c467 F467
def l468_0 : C := .loop [] [] [] [] (rs 9 (q3 (.bin .lss (.g 8) (.g 7))<|qe) <| sq (cd 9 .skip <| .exit 0) <| sq (bk 1 (rs 10 (qm 8<|qv 5<|qe) <| rs 11 (qm 1<|qm 0<|qm 5<|qi 36<|qJ 36<|q3 (.call (.v (.l 0)) .no none [.l 4])<|qe) <| cd 16 (rs 17 (qm 5<|qv 4<|qe) .ret) .skip)) <| r1 18 (q1 (.bin .add (.g 8) (ci 1))<|qv 8<|qe))
def c468 : C := rs 0 (qz 4 0<|qe) <| sq (rs 6 (qm 0<|qH false<|q3 (.mov (ci 0))<|qe) <| bk 0 l468_0) <| rs 0 (qz 4 (-1)<|qe) .ret
def F468 : F := mF 2 [.t 4] none c468
attribute [go_sem] c468 F468
def c473 : C := rs 0 (qB 2 0<|qB 3 1<|qG 4 z_20<|qe) <| rs 6 (qr 2 1<|q1 (.fn 496 [.g 3] [3])<|q1 (.call (.k 463) .borrow none [.l 1,.l 2])<|qv 5<|qe) <| rs 10 (qr 2 1<|q1 (.call (.k 497) .freeze (some 0) [.l 1])<|qf 2 1<|qs 2 1 3 2<|qe) <| sq (bk 0 (rs 22 (qm 5<|qk .lss 0<|qv 21<|qe) <| cd 21 (r1 24 (qr 2 1<|qb 3 9<|q1 (.mks 9 1 z_19 [(0,.l 2)])<|q1 (.app 12 9 (.l 1) (.l 3))<|qf 2 1<|qs 2 1 5 4<|qe)) <| rt 31 (qr 2 1<|qm 5<|qi 9<|qg 0<|q1 (.load (.e 12) none (.l 4))<|qr 3 0<|qq .eql 5<|qv 30<|qe) <| cd 30 (r1 40 (qr 2 1<|qm 5<|qb 3 9<|q1 (.iad 9 (.l 1) (.l 2))<|q5 (.store (.e 12) 9 (.l 4) (.l 3))<|qe)) <| r1 14 (qr 2 1<|qm 5<|qb 3 9<|q1 (.mks 9 1 z_19 [(0,.l 3)])<|q1 (.ins 498 12 9 (.l 1) (.l 2) (.l 4))<|qf 2 1<|qs 2 1 6 5<|qe))) <| rs 45 (qb 2 2<|qt 4 2 0<|qe) .ret
def F473 : F := mF 2 [.cell 4 (some 2)] none c473
attribute [go_sem] c473 F473
def c474 : C := rs 0 (qB 2 0<|qG 4 z_3<|qG 5 z_3<|qz 6 0<|qe) <| i1 7 (qb 2 3<|qm 1<|qd 499<|qN<|qe) 10 (rs 11 (q1 (.build z_3 [])<|q1 (.build z_3 [])<|qt 4 3 0<|qt 5 3 1<|qz 6 1<|qe) .ret) <| sq (bk 0 (rs 20 (qm 1<|qf 2 0<|qg 0<|ql 2<|qq .gtr 0<|qv 19<|qe) <| cd 19 (r1 25 (qm 1<|qf 2 0<|qg 0<|qs 2 1 2 0<|qf 2 0<|qg 1<|qu 2 5 0<|qe)) <| rs 31 (qf 2 0<|qg 1<|ql 2<|qk .eql 1048576<|qv 30<|qe) <| cd 30 (rs 35 (q1 (.build z_3 [])<|q1 (.build z_3 [])<|qt 4 3 0<|qt 5 3 1<|qz 6 6<|qe) .ret) <| r1 13 (qf 2 0<|qg 1<|ql 2<|qk .add 1<|qf 2 0<|qg 1<|qs 2 1 5 3<|qe))) <| rt 37 (qb 2 3<|qR 2 0 3<|qt 4 3 0<|qt 5 3 2<|qz 6 0<|qe) .ret
def F474 : F := mF 2 [.cell 4 (some 3),.cell 5 (some 3),.t 6] none c474
attribute [go_sem] c474 F474
def l483_0 : C := .loop [] [] [] [] (rs 12 (q3 (.bin .lss (.g 11) (.g 10))<|qe) <| sq (cd 12 .skip <| .exit 0) <| sq (bk 1 (rs 13 (q1 (.iad 1 (.g 9) (.g 11))<|qj<|qv 6<|qe) <| rs 16 (qm 6<|qc 456<|q2 15 (.mov (.l 1))<|qx 0<|qy 1<|qw 7<|qw 8<|qe) <| i1 20 (qm 8<|qK .neq 0<|qe) 21 (rs 22 (qm 8<|qE 2<|qw 3<|qe) .ret) <| r1 23 (qm 4<|qm 7<|q1 (.app 4 1 (.l 0) (.l 1))<|qv 4<|qe))) <| r1 26 (q1 (.bin .add (.g 11) (ci 1))<|qv 11<|qe))
def c483 : C := rs 0 (qE 2<|qz 3 0<|qe) <| rs 4 (q3 (.mko 1)<|qe) <| sq (rs 9 (q3 (.mov (.g 0))<|qH false<|q3 (.mov (ci 0))<|qe) <| bk 0 l483_0) <| rs 27 (qm 4<|q1 (.b2s (.l 0))<|qv 2<|qz 3 0<|qe) .ret
def F483 : F := mF 1 [.t 2,.t 3] none c483
attribute [go_sem] c483 F483
def c484 : C := rs 0 (qE 2<|qe) <| rs 6 (qm 0<|qh true<|qc 456<|q2 5 (.mov (.l 2))<|qx 0<|qy 1<|qw 3<|qD 4<|q1 (.mov (.l 5))<|qe) <| rs 11 (qm 3<|qm 0<|qq .add 0<|qv 2<|qe) .ret
def F484 : F := mF 1 [.t 2] none c484
attribute [go_sem] c484 F484
def c485 : C := rs 0 (qE 2<|qe) <| i1 3 (q3 (.mov (.g 0))<|qe) 3 (rs 2 (q3 (.mov (.c (.str [1])))<|qe) .ret) <| rs 2 (q3 (.mov (.c (.str [0])))<|qe) .ret
def F485 : F := mF 1 [.t 2] none c485
attribute [go_sem] c485 F485
def l490_0 : C := .loop [] [] [] [] (rs 12 (q3 (.bin .lss (.g 11) (ci 3))<|qe) <| sq (cd 12 .skip <| .exit 0) <| sq (bk 1 (rs 13 (qm 11<|qv 6<|qe) <| rs 15 (qm 0<|qc 491<|q2 14 (.mov (.l 1))<|qx 0<|qy 1<|qY 2 2<|qV 7 3<|qV 8 4<|qV 9 5<|qe) <| i1 20 (qm 9<|qK .neq 0<|qe) 21 (rs 22 (q1 (.build z_3 [])<|qm 9<|qt 2 3 0<|qE 3<|qV 4 1<|qe) .ret) <| r1 24 (qm 6<|qm 7<|qm 8<|q1 (.iada 1 3 (.g 5) (.l 0))<|qs 5 1 3 1<|qV 0 2<|qe))) <| r1 28 (q1 (.bin .add (.g 11) (ci 1))<|qv 11<|qe))
def c490 : C := rs 0 (qG 2 z_3<|qE 3<|qz 4 0<|qe) <| rs 0 (qG 5 z_3<|qe) <| sq (rs 0 (qz 11 0<|qe) <| bk 0 l490_0) <| rs 29 (q1 (.iada 1 3 (.g 5) (ci 0))<|ql 5<|q1 (.iada 1 3 (.g 5) (ci 1))<|ql 5<|q1 (.iada 1 3 (.g 5) (ci 2))<|ql 5<|q1 (.build z_3 [(0,1,.l 1),(1,1,.l 3),(2,1,.l 5)])<|qG 10 z_3<|qs 10 3 7 6<|qe) <| i1 36 (qb 10 3<|qc 28<|qN<|qe) 38 (rs 39 (q1 (.build z_3 [])<|qt 2 3 0<|qE 3<|qz 4 3<|qe) .ret) <| rs 40 (qb 10 3<|qm 0<|qt 2 3 0<|qw 3<|qz 4 0<|qe) .ret
def F490 : F := mF 1 [.cell 2 (some 3),.t 3,.t 4] none c490
attribute [go_sem] c490 F490
def l491_0 : C := .loop [] [] [] [] (rs 11 (q3 (.bin .lss (.g 10) (.g 9))<|qe) <| sq (cd 11 .skip <| .exit 0) <| sq (bk 1 (rs 12 (qm 10<|qv 6<|qe) <| rs 13 (qm 0<|qm 6<|q1 (.idx (.l 0) (.l 1))<|q1 (.bin .and (.l 2) (.c (.int .u8 127)))<|q1 (.conv (.int .i64) (.l 3))<|qv 7<|qe) <| bk 2 (rs 29 (qm 6<|qk .gtr 8<|ya<|qm 0<|qm 6<|q1 (.idx (.l 3) (.l 4))<|q1 (.bin .geq (.l 5) (.c (.int .u8 128)))<|yo<|qm 7<|qk .gtr 0<|y1 2<|qo 7<|za 2<|qv 28<|qe) <| cd 28 (rs 41 (qm 0<|qc 505<|qz 2 0<|qE 3<|qV 4 1<|qe) .ret) <| rs 44 (qm 0<|qm 6<|q1 (.idx (.l 0) (.l 1))<|q1 (.bin .geq (.l 2) (.c (.int .u8 128)))<|qv 43<|qe) <| cd 43 (r1 48 (qm 5<|qm 7<|qm 6<|q1 (.bin .mul (ci 7) (.l 2))<|q1 (.sh .shl (.l 1) (.l 3))<|qq .or 0<|qv 5<|qe)) <| rs 55 (qm 7<|qk .eql 0<|ya<|qm 6<|qk .gtr 0<|za 2<|qv 54<|qe) <| cd 54 (rs 0 (qz 2 0<|qE 3<|qz 4 3<|qe) .ret) <| rt 18 (qm 5<|qm 7<|qm 6<|q1 (.bin .mul (ci 7) (.l 2))<|q1 (.sh .shl (.l 1) (.l 3))<|qq .or 0<|qm 0<|qm 6<|qk .add 1<|q1 (.sl true 0 (.l 6) (some (.l 8)) none)<|qV 2 5<|qw 3<|qz 4 0<|qe) .ret))) <| r1 61 (q1 (.bin .add (.g 10) (ci 1))<|qv 10<|qe))
def c491 : C := rs 0 (qz 2 0<|qE 3<|qz 4 0<|qe) <| rs 0 (qz 5 0<|qe) <| sq (rs 8 (qm 0<|qH true<|q3 (.mov (ci 0))<|qe) <| bk 0 l491_0) <| rs 0 (qz 2 0<|qE 3<|qz 4 2<|qe) .ret
def F491 : F := mF 1 [.t 2,.t 3,.t 4] none c491
attribute [go_sem] c491 F491
def c492 : C := rs 0 (qE 2<|qe) <| rs 7 (qm 0<|q1 (.nilc (.l 0))<|qg 0<|ql 0<|qc 506<|q2 6 (.mov (.l 4))<|qx 0<|qy 1<|qY 5 2<|qV 3 6<|qV 4 7<|qV 5 8<|qe) <| i1 15 (qm 0<|q1 (.nilc (.l 0))<|qg 1<|ql 0<|yo<|qm 5<|qk .neq 0<|zO 4<|qe) 22 (rs 23 (qm 0<|q1 (.nilc (.l 0))<|qg 1<|q5 (.store (.v 0) 1 (.l 2) (cb true))<|qe) <| rs 0 (qE 2<|qe) .ret) <| rs 26 (qm 0<|qm 4<|q1 (.nilc (.l 0))<|qg 0<|qs 0 1 3 1<|qe) <| rs 30 (qm 3<|qv 2<|qe) .ret
def F492 : F := mF 1 [.t 2] none c492
attribute [go_sem] c492 F492
def c493 : C := rs 0 (qF 2<|qe) <| rs 7 (qm 0<|q1 (.nilc (.l 0))<|qg 0<|ql 0<|qc 507<|q2 6 (.mov (.l 4))<|qx 0<|qy 1<|qY 5 2<|qV 3 6<|qV 4 7<|qV 5 8<|qe) <| i1 15 (qm 0<|q1 (.nilc (.l 0))<|qg 1<|ql 0<|yo<|qm 5<|qk .neq 0<|zO 4<|qe) 22 (rs 23 (qm 0<|q1 (.nilc (.l 0))<|qg 1<|q5 (.store (.v 0) 1 (.l 2) (cb true))<|qe) <| rs 0 (qF 2<|qe) .ret) <| rs 26 (qm 0<|qm 4<|q1 (.nilc (.l 0))<|qg 0<|qs 0 1 3 1<|qe) <| rs 30 (qm 3<|qv 2<|qe) .ret
def F493 : F := mF 1 [.t 2] none c493
attribute [go_sem] c493 F493
def c496 : C := rs 0 (qB 2 0<|qF 3<|qe) <| rs 4 (qr 2 0<|qf 1 0<|qj<|qq .geq 1<|qv 3<|qe) .ret
def F496 : F := mF 2 [.t 3] none c496
attribute [go_sem] c496 F496
def c499 : C := rs 0 (qB 2 0<|qF 4<|qe) <| rs 5 (qR 2 0 3<|qc 28<|ya<|qm 1<|qk .geq 0<|za 3<|ya<|qm 1<|qk .leq 1099511627776<|za 7<|qv 4<|qe) .ret
def F499 : F := mF 2 [.t 4] none c499
attribute [go_sem] c499 F499
def c506 : C := rs 0 (qE 2<|qE 3<|qz 4 0<|qe) <| rs 9 (qm 0<|qc 491<|q2 8 (.mov (.l 1))<|qx 0<|qy 1<|qY 2 2<|qV 5 3<|qV 6 4<|qV 7 5<|qe) <| i1 14 (qm 7<|qK .neq 0<|qe) 15 (rs 16 (qm 7<|qE 2<|qE 3<|qV 4 0<|qe) .ret) <| i1 17 (qm 6<|qh true<|qm 5<|qQ .lss 1<|qe) 20 (rs 0 (qE 2<|qE 3<|qz 4 2<|qe) .ret) <| rt 21 (qm 6<|qm 5<|q1 (.sl true 0 (.l 0) none (some (.l 1)))<|qm 6<|qm 5<|q1 (.sl true 0 (.l 3) (some (.l 4)) none)<|qV 2 2<|qw 3<|qz 4 0<|qe) .ret
def F506 : F := mF 1 [.t 2,.t 3,.t 4] none c506
attribute [go_sem] c506 F506
def c507 : C := rs 0 (qF 2<|qE 3<|qz 4 0<|qe) <| sq (bk 0 (rs 6 (qm 0<|q1 (.bin .eql (.l 0) (.c (.str [])))<|qv 5<|qe) <| cd 5 (rs 0 (qF 2<|qE 3<|qz 4 2<|qe) .ret) <| rs 9 (qm 0<|q1 (.idx (.l 0) (ci 0))<|q1 (.bin .gtr (.l 1) (.c (.int .u8 1)))<|qv 8<|qe) <| cd 8 (rs 0 (qF 2<|qE 3<|qz 4 3<|qe) .ret) .skip)) <| rt 12 (qm 0<|q1 (.idx (.l 0) (ci 0))<|q1 (.bin .eql (.l 1) (.c (.int .u8 1)))<|qm 0<|q1 (.sl true 0 (.l 3) (some (ci 1)) none)<|qV 2 2<|qw 3<|qz 4 0<|qe) .ret
def F507 : F := mF 1 [.t 2,.t 3,.t 4] none c507
attribute [go_sem] c507 F507
def l511_1 : C := .loop [] [4,0,10400] [8] [20700] (rs 65 (q3 (.bin .lss (.g 64) (.g 63))<|qe) <| sq (cd 65 .skip <| .exit 2) <| sq (bk 3 (rs 66 (q1 (.iad 36 (.g 62) (.g 64))<|qJ 36<|qG 8 z_16<|qs 8 36 2 1<|qe) <| rs 69 (qb 8 36<|qc 529<|q2 68 (.mov (.l 1))<|qx 0<|qy 1<|qw 9<|qD 10<|q1 (.mov (.l 4))<|qe) <| r1 73 (qm 9<|q1 (.mks 1 1 [.str []] [(0,.l 0)])<|q1 (.rcall 528 [.g 4,.l 1] 0 4 20700)<|qe))) <| r1 76 (q1 (.bin .add (.g 64) (ci 1))<|qv 64<|qe))
def l511_0 : C := .loop [] [4,0,10400] [6,8] [20100,20200,20300,20400,20500,20600,20700] (rs 25 (q3 (.bin .lss (.g 24) (.g 23))<|qe) <| sq (cd 25 .skip <| .exit 0) <| sq (bk 1 (rs 26 (q1 (.iad 9 (.g 22) (.g 24))<|qJ 9<|qG 6 z_19<|qs 6 9 2 1<|qe) <| rs 28 (qr 6 0<|qf 6 1<|qg 1<|ql 6<|q1 (.mks 1 2 [.int .i64 0] [(0,.l 1),(1,.l 4)])<|q1 (.rcall 526 [.g 4,.l 5] 0 4 20100)<|qe) <| rs 35 (qf 6 1<|qg 2<|ql 6<|q1 (.rcall 527 [.g 4,.l 2] 0 4 20200)<|qe) <| rs 39 (qf 6 1<|qg 3<|ql 6<|q1 (.mks 1 1 [.int .i64 0] [(0,.l 2)])<|q1 (.rcall 526 [.g 4,.l 3] 0 4 20300)<|qe) <| rs 44 (qf 6 1<|qg 4<|ql 6<|qf 6 1<|qg 5<|ql 6<|q1 (.mks 1 2 [.str []] [(0,.l 2),(1,.l 5)])<|q1 (.rcall 528 [.g 4,.l 6] 0 4 20400)<|qe) <| rs 52 (qf 6 1<|qg 6<|ql 6<|q1 (.rcall 527 [.g 4,.l 2] 0 4 20500)<|qe) <| rs 56 (qr 6 8<|qh false<|q1 (.mks 1 1 [.int .i64 0] [(0,.l 2)])<|q1 (.rcall 526 [.g 4,.l 3] 0 4 20600)<|qe) <| rs 61 (qf 6 8<|q3 (.load (.v 6) none (.l 0))<|qH false<|q3 (.mov (ci 0))<|qe) <| bk 2 l511_1)) <| r1 77 (q1 (.bin .add (.g 24) (ci 1))<|qv 24<|qe))
def c511 : C := rs 0 (qB 1 0<|qE 2<|qz 3 0<|qe) <| i1 11 (qb 1 2<|qc 408<|qN<|qe) 13 (rs 0 (qE 2<|qz 3 1<|qe) .ret) <| rs 4 (q3 (.allo [.nslice 1] 10400)<|qe) <| rs 14 (qr 1 0<|qr 1 1<|qh false<|q1 (.mks 1 2 [.int .i64 0] [(0,.l 1),(1,.l 4)])<|q1 (.rcall 526 [.g 4,.l 5] 0 4 20000)<|qe) <| sq (rs 21 (qf 1 1<|q3 (.load (.v 1) none (.l 0))<|qH false<|q3 (.mov (ci 0))<|qe) <| bk 0 l511_0) <| rs 78 (qr 4 0<|q1 (.b2s (.l 1))<|qv 2<|qz 3 0<|qe) .ret
def F511 : F := mF 1 [.t 2,.t 3] none c511
attribute [go_sem] c511 F511
def l516_0 : C := .loop [] [4,0,10400] [6] [20100,20200] (rs 25 (q3 (.bin .lss (.g 24) (.g 23))<|qe) <| sq (cd 25 .skip <| .exit 0) <| sq (bk 1 (rs 26 (q1 (.iad 5 (.g 22) (.g 24))<|qJ 5<|qG 6 z_0<|qs 6 5 2 1<|qe) <| rs 28 (qf 6 0<|qg 0<|ql 6<|qf 6 0<|qg 1<|ql 6<|q1 (.mks 1 2 [.str []] [(0,.l 2),(1,.l 5)])<|q1 (.rcall 528 [.g 4,.l 6] 0 4 20100)<|qe) <| r1 36 (qr 6 2<|qr 6 3<|qr 6 4<|q1 (.mks 1 3 [.int .i64 0] [(0,.l 1),(1,.l 3),(2,.l 5)])<|q1 (.rcall 526 [.g 4,.l 6] 0 4 20200)<|qe))) <| r1 44 (q1 (.bin .add (.g 24) (ci 1))<|qv 24<|qe))
def l516_1 : C := .loop [] [4,0,10400] [8] [20400,20500] (rs 54 (q3 (.bin .lss (.g 53) (.g 52))<|qe) <| sq (cd 54 .skip <| .exit 2) <| sq (bk 3 (rs 55 (q1 (.iad 3 (.g 51) (.g 53))<|qJ 3<|qG 8 z_12<|qs 8 3 2 1<|qe) <| rs 57 (qr 8 0<|q1 (.mks 1 1 [.int .i64 0] [(0,.l 1)])<|q1 (.rcall 526 [.g 4,.l 2] 0 4 20400)<|qe) <| rs 61 (qr 8 1<|q1 (.rcall 527 [.g 4,.l 1] 0 4 20500)<|qe) <| r2 64 (qr 4 0<|qr 8 2<|qc 485<|q1 (.appd 1 (.l 1) (.l 4))<|qf 4 0<|qs 4 1 6 5<|qe))) <| r1 71 (q1 (.bin .add (.g 53) (ci 1))<|qv 53<|qe))
def l516_2 : C := .loop [] [4,0,10400] [10] [20700,20800] (rs 83 (q3 (.bin .lss (.g 82) (.g 81))<|qe) <| sq (cd 83 .skip <| .exit 4) <| sq (bk 5 (rs 84 (q1 (.iad 5 (.g 80) (.g 82))<|qJ 5<|qG 10 z_11<|qs 10 5 2 1<|qe) <| rs 86 (qr 10 0<|qr 10 1<|q1 (.mks 1 2 [.int .i64 0] [(0,.l 1),(1,.l 3)])<|q1 (.rcall 526 [.g 4,.l 4] 0 4 20700)<|qe) <| r1 92 (qR 10 2 3<|q1 (.mks 3 1 z_3 [(0,.l 1)])<|q1 (.rcall 537 [.g 4,.l 2] 0 4 20800)<|qe))) <| r1 96 (q1 (.bin .add (.g 82) (ci 1))<|qv 82<|qe))
def l516_3 : C := .loop [] [4,0,10400] [12] [21400,21500,21600] (rs 121 (q3 (.bin .lss (.g 120) (.g 119))<|qe) <| sq (cd 121 .skip <| .exit 6) <| sq (bk 7 (rs 122 (q1 (.iad 7 (.g 118) (.g 120))<|qJ 7<|qG 12 z_15<|qs 12 7 2 1<|qe) <| rs 124 (qr 12 0<|qr 12 1<|qr 12 2<|q1 (.mks 1 3 [.int .i64 0] [(0,.l 1),(1,.l 3),(2,.l 5)])<|q1 (.rcall 526 [.g 4,.l 6] 0 4 21400)<|qe) <| rs 132 (qR 12 3 3<|q1 (.mks 3 1 z_3 [(0,.l 1)])<|q1 (.rcall 537 [.g 4,.l 2] 0 4 21500)<|qe) <| r1 136 (qr 12 6<|q1 (.mks 1 1 [.int .i64 0] [(0,.l 1)])<|q1 (.rcall 526 [.g 4,.l 2] 0 4 21600)<|qe))) <| r1 140 (q1 (.bin .add (.g 120) (ci 1))<|qv 120<|qe))
def c516 : C := rs 0 (qB 1 0<|qE 2<|qz 3 0<|qe) <| i1 13 (qb 1 29<|qc 328<|qN<|qe) 15 (rs 0 (qE 2<|qz 3 1<|qe) .ret) <| rs 4 (q3 (.allo [.nslice 1] 10400)<|qe) <| rs 16 (qr 1 0<|qh false<|q1 (.mks 1 1 [.int .i64 0] [(0,.l 2)])<|q1 (.rcall 526 [.g 4,.l 3] 0 4 20000)<|qe) <| sq (rs 21 (qf 1 0<|q3 (.load (.v 1) none (.l 0))<|qH false<|q3 (.mov (ci 0))<|qe) <| bk 0 l516_0) <| rs 45 (qr 1 1<|qh false<|q1 (.mks 1 1 [.int .i64 0] [(0,.l 2)])<|q1 (.rcall 526 [.g 4,.l 3] 0 4 20300)<|qe) <| sq (rs 50 (qf 1 1<|q3 (.load (.v 1) none (.l 0))<|qH false<|q3 (.mov (ci 0))<|qe) <| bk 2 l516_1) <| rs 72 (qr 1 2<|qr 1 3<|qh false<|q1 (.mks 1 2 [.int .i64 0] [(0,.l 1),(1,.l 4)])<|q1 (.rcall 526 [.g 4,.l 5] 0 4 20600)<|qe) <| sq (rs 79 (qf 1 3<|q3 (.load (.v 1) none (.l 0))<|qH false<|q3 (.mov (ci 0))<|qe) <| bk 4 l516_2) <| rs 97 (qr 1 4<|qh false<|q1 (.mks 1 1 [.int .i64 0] [(0,.l 2)])<|q1 (.rcall 526 [.g 4,.l 3] 0 4 20900)<|qe) <| rs 102 (qr 1 4<|q1 (.rcall 537 [.g 4,.l 1] 0 4 21000)<|qe) <| rs 105 (qR 1 5 3<|q1 (.mks 3 1 z_3 [(0,.l 1)])<|q1 (.rcall 537 [.g 4,.l 2] 0 4 21100)<|qe) <| rs 109 (qR 1 8 20<|q1 (.rcall 538 [.g 4,.l 1] 0 4 21200)<|qe) <| rs 112 (qr 1 28<|qh false<|q1 (.mks 1 1 [.int .i64 0] [(0,.l 2)])<|q1 (.rcall 526 [.g 4,.l 3] 0 4 21300)<|qe) <| sq (rs 117 (qf 1 28<|q3 (.load (.v 1) none (.l 0))<|qH false<|q3 (.mov (ci 0))<|qe) <| bk 6 l516_3) <| rs 141 (qr 4 0<|q1 (.b2s (.l 1))<|qv 2<|qz 3 0<|qe) .ret
def F516 : F := mF 1 [.t 2,.t 3] none c516
attribute [go_sem] c516 F516
def l526_0 : C := .loop [] [0,0,9000] [] [] (rs 11 (q3 (.bin .lss (.g 10) (.g 9))<|qe) <| sq (cd 11 .skip <| .exit 0) <| sq (bk 1 (rs 12 (q1 (.iad 1 (.g 8) (.g 10))<|qj<|qv 5<|qe) <| rs 15 (qm 5<|qc 456<|q2 14 (.mov (.l 1))<|qx 0<|qy 1<|qw 6<|qD 7<|q1 (.mov (.l 4))<|qe) <| r1 19 (qm 0<|qm 0<|q1 (.nilc (.l 1))<|qg 0<|ql 0<|qm 6<|q1 (.appd 1 (.l 4) (.l 5))<|q1 (.nilc (.l 0))<|qg 0<|qs 0 1 8 6<|qe))) <| r1 28 (q1 (.bin .add (.g 10) (ci 1))<|qv 10<|qe))
def c526 : C := rs 8 (q3 (.mov (.g 1))<|qH false<|q3 (.mov (ci 0))<|qe) <| bk 0 l526_0
def F526 : F := mF 2 [] none c526
attribute [go_sem] c526 F526
def c527 : C := rs 4 (qm 0<|qm 1<|qh false<|q1 (.mks 1 1 [.int .i64 0] [(0,.l 2)])<|q1 (.rcall 526 [.l 0,.l 3] 0 0 20000)<|qe) <| r1 9 (qm 0<|qm 1<|q1 (.rcall 526 [.l 0,.l 1] 0 0 20100)<|qe)
def F527 : F := mF 2 [] none c527
attribute [go_sem] c527 F527
def l528_0 : C := .loop [] [0,0,9000] [] [] (rs 9 (q3 (.bin .lss (.g 8) (.g 7))<|qe) <| sq (cd 9 .skip <| .exit 0) <| sq (bk 1 (rs 10 (q1 (.iad 1 (.g 6) (.g 8))<|qj<|qv 5<|qe) <| r2 12 (qm 0<|qm 0<|q1 (.nilc (.l 1))<|qg 0<|ql 0<|qm 5<|qc 484<|q1 (.appd 1 (.l 4) (.l 6))<|q1 (.nilc (.l 0))<|qg 0<|qs 0 1 9 7<|qe))) <| r1 22 (q1 (.bin .add (.g 8) (ci 1))<|qv 8<|qe))
def c528 : C := rs 6 (q3 (.mov (.g 1))<|qH false<|q3 (.mov (ci 0))<|qe) <| bk 0 l528_0
def F528 : F := mF 2 [] none c528
attribute [go_sem] c528 F528
def l529_0 : C := .loop [] [4,0,10400] [8] [21400] (rs 101 (q3 (.bin .lss (.g 100) (.g 99))<|qe) <| sq (cd 101 .skip <| .exit 0) <| sq (bk 1 (rs 102 (q1 (.iad 2 (.g 98) (.g 100))<|qJ 2<|qG 8 z_1<|qs 8 2 2 1<|qe) <| r1 104 (qr 8 0<|qr 8 1<|q1 (.mks 1 2 [.str []] [(0,.l 1),(1,.l 3)])<|q1 (.rcall 457 [.g 4,.l 4] 0 4 21400)<|qe))) <| r1 110 (q1 (.bin .add (.g 100) (ci 1))<|qv 100<|qe))
def l529_1 : C := .loop [] [4,0,10400] [10] [21800,21900] (rs 127 (q3 (.bin .lss (.g 126) (.g 125))<|qe) <| sq (cd 127 .skip <| .exit 2) <| sq (bk 3 (rs 128 (q1 (.iad 5 (.g 124) (.g 126))<|qJ 5<|qG 10 z_0<|qs 10 5 2 1<|qe) <| rs 130 (qf 10 0<|qg 0<|ql 10<|qf 10 0<|qg 1<|ql 10<|q1 (.mks 1 2 [.str []] [(0,.l 2),(1,.l 5)])<|q1 (.rcall 457 [.g 4,.l 6] 0 4 21800)<|qe) <| r1 138 (qr 10 2<|qr 10 3<|qr 10 4<|q1 (.mks 1 3 [.int .i64 0] [(0,.l 1),(1,.l 3),(2,.l 5)])<|q1 (.rcall 422 [.g 4,.l 6] 0 4 21900)<|qe))) <| r1 146 (q1 (.bin .add (.g 126) (ci 1))<|qv 126<|qe))
def c529 : C := rs 0 (qB 1 0<|qE 2<|qz 3 0<|qe) <| i1 11 (qb 1 36<|qc 341<|qN<|qe) 13 (rs 0 (qE 2<|qz 3 1<|qe) .ret) <| rs 4 (q3 (.allo [.nslice 1] 10400)<|qe) <| rs 14 (qr 1 0<|qr 1 1<|qr 1 2<|qr 1 3<|qr 1 4<|qr 1 5<|qr 1 6<|qr 1 7<|qr 1 8<|q1 (.mks 1 9 [.int .i64 0] [(0,.l 1),(1,.l 3),(2,.l 5),(3,.l 7),(4,.l 9),(5,.l 11),(6,.l 13),(7,.l 15),(8,.l 17)])<|q1 (.rcall 422 [.g 4,.l 18] 0 4 20000)<|qe) <| rs 34 (qR 1 9 3<|q1 (.mks 3 1 z_3 [(0,.l 1)])<|q1 (.rcall 421 [.g 4,.l 2] 0 4 20100)<|qe) <| rs 38 (qr 1 12<|q1 (.mks 1 1 [.str []] [(0,.l 1)])<|q1 (.rcall 457 [.g 4,.l 2] 0 4 20200)<|qe) <| rt 42 (qR 1 13 12<|qR 1 25 9<|qG 5 z_24<|qG 6 z_9<|qs 5 12 4 1<|qs 6 9 5 3<|qe) <| rs 46 (qr 5 0<|qr 5 1<|qr 5 2<|q1 (.mks 1 3 [.int .i64 0] [(0,.l 1),(1,.l 3),(2,.l 5)])<|q1 (.rcall 422 [.g 4,.l 6] 0 4 20300)<|qe) <| rs 54 (qr 5 3<|qr 5 4<|q1 (.mks 1 2 [.str []] [(0,.l 1),(1,.l 3)])<|q1 (.rcall 457 [.g 4,.l 4] 0 4 20400)<|qe) <| rs 60 (qr 5 5<|q1 (.rcall 458 [.g 4,.l 1] 0 4 20500)<|qe) <| rs 63 (qr 5 6<|q1 (.mks 1 1 [.str []] [(0,.l 1)])<|q1 (.rcall 457 [.g 4,.l 2] 0 4 20600)<|qe) <| rs 67 (qR 5 7 3<|q1 (.mks 3 1 z_3 [(0,.l 1)])<|q1 (.rcall 421 [.g 4,.l 2] 0 4 20700)<|qe) <| rs 71 (qr 5 10<|q1 (.mks 1 1 [.str []] [(0,.l 1)])<|q1 (.rcall 457 [.g 4,.l 2] 0 4 20800)<|qe) <| rs 75 (qr 5 11<|qr 6 0<|q1 (.mks 1 2 [.int .i64 0] [(0,.l 1),(1,.l 3)])<|q1 (.rcall 422 [.g 4,.l 4] 0 4 20900)<|qe) <| rs 81 (qR 6 1 3<|q1 (.mks 3 1 z_3 [(0,.l 1)])<|q1 (.rcall 421 [.g 4,.l 2] 0 4 21000)<|qe) <| rs 85 (qr 6 4<|q1 (.rcall 458 [.g 4,.l 1] 0 4 21100)<|qe) <| rs 88 (qr 6 5<|q1 (.mks 1 1 [.str []] [(0,.l 1)])<|q1 (.rcall 457 [.g 4,.l 2] 0 4 21200)<|qe) <| rs 92 (qr 6 6<|qh false<|q1 (.mks 1 1 [.int .i64 0] [(0,.l 2)])<|q1 (.rcall 422 [.g 4,.l 3] 0 4 21300)<|qe) <| sq (rs 97 (qf 6 6<|q3 (.load (.v 6) none (.l 0))<|qH false<|q3 (.mov (ci 0))<|qe) <| bk 0 l529_0) <| rs 111 (qr 6 7<|q1 (.mks 1 1 [.str []] [(0,.l 1)])<|q1 (.rcall 457 [.g 4,.l 2] 0 4 21500)<|qe) <| rs 115 (qr 6 8<|q1 (.rcall 458 [.g 4,.l 1] 0 4 21600)<|qe) <| rs 118 (qr 1 34<|qh false<|q1 (.mks 1 1 [.int .i64 0] [(0,.l 2)])<|q1 (.rcall 422 [.g 4,.l 3] 0 4 21700)<|qe) <| sq (rs 123 (qf 1 34<|q3 (.load (.v 1) none (.l 0))<|qH false<|q3 (.mov (ci 0))<|qe) <| bk 2 l529_1) <| rs 147 (qr 1 35<|qh false<|q1 (.mks 1 1 [.int .i64 0] [(0,.l 2)])<|q1 (.rcall 422 [.g 4,.l 3] 0 4 22000)<|qe) <| rs 152 (qr 1 35<|q1 (.rcall 422 [.g 4,.l 1] 0 4 22100)<|qe) <| rs 155 (qr 4 0<|q1 (.b2s (.l 1))<|qv 2<|qz 3 0<|qe) .ret
def F529 : F := mF 1 [.t 2,.t 3] none c529
attribute [go_sem] c529 F529
def l537_0 : C := .loop [] [0,0,9000] [5] [] (rs 11 (q3 (.bin .lss (.g 10) (.g 9))<|qe) <| sq (cd 11 .skip <| .exit 0) <| sq (bk 1 (rs 12 (q1 (.iad 3 (.g 8) (.g 10))<|qJ 3<|qG 5 z_3<|qs 5 3 2 1<|qe) <| rs 15 (qb 5 3<|qc 455<|q2 14 (.mov (.l 1))<|qx 0<|qy 1<|qw 6<|qD 7<|q1 (.mov (.l 4))<|qe) <| r1 19 (qm 0<|qm 0<|q1 (.nilc (.l 1))<|qg 0<|ql 0<|qm 6<|q1 (.appd 1 (.l 4) (.l 5))<|q1 (.nilc (.l 0))<|qg 0<|qs 0 1 8 6<|qe))) <| r1 28 (q1 (.bin .add (.g 10) (ci 1))<|qv 10<|qe))
def c537 : C := rs 8 (q3 (.mov (.g 1))<|qH false<|q3 (.mov (ci 0))<|qe) <| bk 0 l537_0
def F537 : F := mF 2 [] none c537
attribute [go_sem] c537 F537
def c538 : C := rs 0 (qB 3 1<|qe) <| rs 4 (qm 0<|qr 3 0<|qr 3 1<|qr 3 2<|qr 3 3<|qr 3 4<|qr 3 5<|qr 3 6<|qr 3 7<|q1 (.mks 1 8 [.int .i64 0] [(0,.l 2),(1,.l 4),(2,.l 6),(3,.l 8),(4,.l 10),(5,.l 12),(6,.l 14),(7,.l 16)])<|q1 (.rcall 526 [.l 0,.l 17] 0 0 20000)<|qe) <| rs 23 (qm 0<|qr 3 8<|q1 (.mks 1 1 [.str []] [(0,.l 2)])<|q1 (.rcall 528 [.l 0,.l 3] 0 0 20100)<|qe) <| rs 28 (qm 0<|qr 3 9<|qh false<|q1 (.mks 1 1 [.int .i64 0] [(0,.l 3)])<|q1 (.rcall 526 [.l 0,.l 4] 0 0 20200)<|qe) <| rs 34 (qm 0<|qr 3 9<|q1 (.rcall 528 [.l 0,.l 2] 0 0 20300)<|qe) <| rs 38 (qm 0<|qr 3 10<|qr 3 11<|qr 3 12<|q1 (.mks 1 3 [.int .i64 0] [(0,.l 2),(1,.l 4),(2,.l 6)])<|q1 (.rcall 526 [.l 0,.l 7] 0 0 20400)<|qe) <| rs 47 (qm 0<|qf 3 13<|qg 0<|ql 3<|qf 3 13<|qg 1<|ql 3<|q1 (.mks 1 2 [.str []] [(0,.l 3),(1,.l 6)])<|q1 (.rcall 528 [.l 0,.l 7] 0 0 20500)<|qe) <| rs 56 (qm 0<|qr 3 15<|q1 (.rcall 527 [.l 0,.l 2] 0 0 20600)<|qe) <| rs 60 (qm 0<|qR 3 16 3<|q1 (.mks 3 1 z_3 [(0,.l 2)])<|q1 (.rcall 537 [.l 0,.l 3] 0 0 20700)<|qe) <| r1 65 (qm 0<|qr 3 19<|q1 (.rcall 527 [.l 0,.l 2] 0 0 20800)<|qe)
def F538 : F := mF 2 [] none c538
attribute [go_sem] c538 F538
def c553 : C := rs 0 (qB 1 0<|qE 2<|qe) <| rs 6 (qR 1 0 29<|qc 516<|q2 5 (.mov (.l 2))<|qx 0<|qy 1<|qw 3<|qD 4<|q1 (.mov (.l 5))<|qe) <| rs 11 (qm 3<|qv 2<|qe) .ret
def F553 : F := mF 1 [.t 2] none c553
attribute [go_sem] c553 F553
def c554 : C := rs 0 (qB 1 0<|qE 2<|qe) <| rs 6 (qR 1 0 2<|qc 511<|q2 5 (.mov (.l 2))<|qx 0<|qy 1<|qw 3<|qD 4<|q1 (.mov (.l 5))<|qe) <| rs 11 (qm 3<|qv 2<|qe) .ret
def F554 : F := mF 1 [.t 2] none c554
attribute [go_sem] c554 F554
def c555 : C := rs 0 (qB 2 0<|qG 4 z_27<|qz 5 0<|qe) <| rs 9 (qm 1<|qc 570<|q2 8 (.mov (.l 1))<|qx 0<|qy 1<|qw 6<|qw 7<|qe) <| i1 13 (qm 7<|qK .neq 0<|qe) 14 (rs 15 (qb 2 5<|qm 7<|qt 4 5 0<|qw 5<|qe) .ret) <| sq (rs 18 (qb 2 5<|qm 6<|qd 571<|q2 17 (.mov (.l 2))<|qx 0<|qy 1<|qt 2 5 4<|qw 7<|qe) <| rs 23 (qm 7<|qK .neq 0<|qe) <| cd 24 (rs 25 (qb 2 5<|qm 7<|qt 4 5 0<|qw 5<|qe) .ret) .skip) <| rs 27 (qb 2 5<|qc 572<|qx 0<|qy 1<|qt 4 5 2<|qw 5<|qe) .ret
def F555 : F := mF 2 [.cell 4 (some 5),.t 5] none c555
attribute [go_sem] c555 F555
def c556 : C := rs 0 (qB 1 0<|qF 2<|qe) <| i1 3 (qr 1 0<|qk .lss 0<|yo<|qr 1 0<|qk .gtr 3<|zo 3<|yo<|qR 1 1 5<|qc 573<|qn<|zo 8<|yo<|qb 1 38<|qc 574<|qn<|zO 14<|qe) 21 (rs 0 (qF 2<|qe) .ret) <| i1 22 (qr 1 0<|qK .eql 0<|qe) 24 (rs 25 (qR 1 8 29<|qc 328<|qv 2<|qe) .ret) <| rs 28 (qf 1 6<|qg 0<|ql 1<|qr 1 0<|qq .eql 2<|ya<|qR 1 6 2<|qc 408<|za 6<|qv 2<|qe) .ret
def F556 : F := mF 1 [.t 2] none c556
attribute [go_sem] c556 F556
def c558 : C := rs 0 (qB 1 0<|qz 2 0<|qe) <| sq (bk 0 (rs 4 (qb 1 38<|qc 556<|qn<|qv 3<|qe) <| cd 3 (rs 0 (qz 2 1<|qe) .ret) <| rs 8 (qr 1 37<|qn<|qv 7<|qe) <| cd 7 (rs 0 (qz 2 16<|qe) .ret) .skip)) <| rs 0 (qz 2 0<|qe) .ret
def F558 : F := mF 1 [.t 2] none c558
attribute [go_sem] c558 F558
def c562 : C := rs 0 (qB 3 0<|qG 6 z_28<|qS 7 36<|qz 8 0<|qe) <| i1 9 (qm 2<|qK .neq 0<|qe) 10 (rs 11 (qb 3 38<|qm 2<|qt 6 38 0<|qS 7 36<|qV 8 1<|qe) .ret) <| rs 13 (qb 3 38<|qm 1<|qt 6 38 0<|qw 7<|qz 8 0<|qe) .ret
def F562 : F := mF 3 [.cell 6 (some 38),.t 7,.t 8] none c562
attribute [go_sem] c562 F562
def l566_0 : C := .loop [] [] [] [] (rs 90 (q3 (.bin .lss (.g 89) (.g 88))<|qe) <| sq (cd 90 .skip <| .exit 0) <| sq (bk 1 (r2 91 (qr 7 6<|qm 4<|q1 (.rcall 492 [.l 2] 0 11 22600)<|qm 4<|q1 (.rcall 492 [.l 4] 0 11 22700)<|q1 (.build z_1 [(0,1,.l 3),(1,1,.l 5)])<|q1 (.mks 2 1 z_1 [(0,.l 6)])<|q1 (.app 99 2 (.l 1) (.l 7))<|qf 7 6<|qs 7 1 9 8<|qe))) <| r1 101 (q1 (.bin .add (.g 89) (ci 1))<|qv 89<|qe))
def l566_1 : C := .loop [] [] [8] [] (rs 111 (q3 (.bin .lss (.g 110) (.g 109))<|qe) <| sq (cd 111 .skip <| .exit 2) <| sq (bk 3 (rs 112 (qm 4<|q1 (.rcall 492 [.l 0] 0 11 23100)<|qm 4<|q1 (.rcall 492 [.l 2] 0 11 23200)<|q1 (.build z_1 [(0,1,.l 1),(1,1,.l 3)])<|q1 (.build z_0 [(0,2,.l 4)])<|qG 8 z_0<|qs 8 5 6 5<|qe) <| rs 118 (qm 4<|q1 (.rcall 465 [.l 0] 0 11 23300)<|qm 4<|q1 (.rcall 465 [.l 2] 0 11 23400)<|qm 4<|q1 (.rcall 465 [.l 4] 0 11 23500)<|qf 8 2<|qs 8 1 6 1<|qf 8 3<|qs 8 1 8 3<|qf 8 4<|qs 8 1 10 5<|qe) <| r1 127 (qr 5 34<|qb 8 5<|q1 (.mks 5 1 z_0 [(0,.l 2)])<|q1 (.app 131 5 (.l 1) (.l 3))<|qf 5 34<|qs 5 1 5 4<|qe))) <| r1 133 (q1 (.bin .add (.g 110) (ci 1))<|qv 110<|qe))
def l566_2 : C := .loop [] [] [] [] (rs 137 (q3 (.bin .lss (.g 136) (.g 135))<|qe) <| sq (cd 137 .skip <| .exit 4) <| sq (bk 5 (r2 138 (qr 5 35<|qm 4<|q1 (.rcall 465 [.l 2] 0 11 23700)<|q1 (.mks 1 1 [.int .i64 0] [(0,.l 3)])<|q1 (.app 143 1 (.l 1) (.l 4))<|qf 5 35<|qs 5 1 6 5<|qe))) <| r1 145 (q1 (.bin .add (.g 136) (ci 1))<|qv 136<|qe))
def c566 : C := rs 0 (qG 2 z_16<|qz 3 0<|qe) <| rs 9 (qm 0<|q1 (.build z_22 [(0,1,.l 0)])<|q1 (.box (.l 1))<|qv 4<|qe) <| rs 0 (qG 5 z_29<|qe) <| rs 0 (qG 6 z_24<|qe) <| rs 0 (qG 7 z_30<|qe) <| rs 12 (qm 4<|q1 (.rcall 465 [.l 0] 0 11 20000)<|qm 4<|q1 (.rcall 465 [.l 2] 0 11 20100)<|qm 4<|q1 (.rcall 465 [.l 4] 0 11 20200)<|qm 4<|q1 (.rcall 465 [.l 6] 0 11 20300)<|qm 4<|q1 (.rcall 465 [.l 8] 0 11 20400)<|qf 5 0<|qs 5 1 10 1<|qf 5 1<|qs 5 1 12 3<|qf 5 2<|qs 5 1 14 5<|qf 5 3<|qs 5 1 16 7<|qf 5 4<|qs 5 1 18 9<|qe) <| rs 27 (qm 4<|q1 (.rcall 465 [.l 0] 0 11 20500)<|qm 4<|q1 (.rcall 465 [.l 2] 0 11 20600)<|qm 4<|q1 (.rcall 465 [.l 4] 0 11 20700)<|qm 4<|q1 (.rcall 465 [.l 6] 0 11 20800)<|qf 5 5<|qs 5 1 8 1<|qf 5 6<|qs 5 1 10 3<|qf 5 7<|qs 5 1 12 5<|qf 5 8<|qs 5 1 14 7<|qe) <| rs 39 (qm 4<|q1 (.rcall 464 [.l 0] 0 11 20900)<|qm 4<|q1 (.rcall 492 [.l 2] 0 11 21000)<|qf 5 9<|qs 5 3 4 1<|qf 5 12<|qs 5 1 6 3<|qe) <| rs 45 (qm 4<|q1 (.rcall 465 [.l 0] 0 11 21100)<|qm 4<|q1 (.rcall 465 [.l 2] 0 11 21200)<|qm 4<|q1 (.rcall 465 [.l 4] 0 11 21300)<|qf 6 0<|qs 6 1 6 1<|qf 6 1<|qs 6 1 8 3<|qf 6 2<|qs 6 1 10 5<|qe) <| rs 54 (qm 4<|q1 (.rcall 492 [.l 0] 0 11 21400)<|qm 4<|q1 (.rcall 492 [.l 2] 0 11 21500)<|qm 4<|q1 (.rcall 493 [.l 4] 0 11 21600)<|qm 4<|q1 (.rcall 492 [.l 6] 0 11 21700)<|qf 6 3<|qs 6 1 8 1<|qf 6 4<|qs 6 1 10 3<|qf 6 5<|qs 6 1 12 5<|qf 6 6<|qs 6 1 14 7<|qe) <| rs 66 (qm 4<|q1 (.rcall 464 [.l 0] 0 11 21800)<|qm 4<|q1 (.rcall 492 [.l 2] 0 11 21900)<|qm 4<|q1 (.rcall 465 [.l 4] 0 11 22000)<|qf 6 7<|qs 6 3 6 1<|qf 6 10<|qs 6 1 8 3<|qf 6 11<|qs 6 1 10 5<|qe) <| rs 75 (qm 4<|q1 (.rcall 465 [.l 0] 0 11 22100)<|qm 4<|q1 (.rcall 464 [.l 2] 0 11 22200)<|qm 4<|q1 (.rcall 493 [.l 4] 0 11 22300)<|qm 4<|q1 (.rcall 492 [.l 6] 0 11 22400)<|qf 7 0<|qs 7 1 8 1<|qf 7 1<|qs 7 3 10 3<|qf 7 4<|qs 7 1 12 5<|qf 7 5<|qs 7 1 14 7<|qe) <| sq (rs 87 (qm 4<|q3 (.rcall 466 [.l 0] 0 11 22500)<|q3 (.mov (ci 0))<|qe) <| bk 0 l566_0) <| rs 102 (qm 4<|q1 (.rcall 492 [.l 0] 0 11 22800)<|qm 4<|q1 (.rcall 493 [.l 2] 0 11 22900)<|qf 7 7<|qs 7 1 4 1<|qf 7 8<|qs 7 1 6 3<|qe) <| sq (rs 108 (qm 4<|q3 (.rcall 466 [.l 0] 0 11 23000)<|q3 (.mov (ci 0))<|qe) <| bk 2 l566_1) <| sq (rs 134 (qm 4<|q3 (.rcall 466 [.l 0] 0 11 23600)<|q3 (.mov (ci 0))<|qe) <| bk 4 l566_2) <| rt 146 (qb 6 12<|qb 7 9<|qf 5 13<|qs 5 12 2 0<|qf 5 25<|qs 5 9 4 1<|qe) <| i1 150 (qm 4<|q1 (.nilc (.l 0))<|qg 1<|ql 11<|yo<|qm 4<|q1 (.nilc (.l 5))<|qg 0<|ql 11<|q1 (.bin .neq (.l 8) (.c (.str [])))<|zo 4<|yo<|qb 5 36<|q1 (.call (.k 341) .borrow none [.l 12])<|qn<|zO 11<|qe) 165 (rs 166 (q1 (.build z_16 [])<|qt 2 36 0<|qz 3 3<|qe) .ret) <| rs 167 (qb 5 36<|qt 2 36 0<|qz 3 0<|qe) .ret
def F566 : F := mF 1 [.cell 2 (some 36),.t 3] none c566
attribute [go_sem] c566 F566
def c570 : C := rs 0 (qE 2<|qz 3 0<|qe) <| i1 4 (qm 0<|qh true<|qK .gtr 1048576<|qe) 6 (rs 0 (qE 2<|qz 3 5<|qe) .ret) <| rs 7 (qm 0<|qc 484<|qc 580<|qv 2<|qz 3 0<|qe) .ret
def F570 : F := mF 1 [.t 2,.t 3] none c570
attribute [go_sem] c570 F570
def c571 : C := rs 0 (qB 2 0<|qG 4 z_27<|qz 5 0<|qe) <| sq (rs 8 (qb 2 5<|qc 581<|qv 6<|qe) <| rs 10 (qm 6<|qK .neq 0<|qe) <| cd 11 (rs 12 (qb 2 5<|qm 6<|qt 4 5 0<|qw 5<|qe) .ret) .skip) <| i1 14 (qm 1<|qh true<|qr 2 0<|qh true<|q1 (.bin .sub (ci 1048576) (.l 4))<|qr 2 1<|qh true<|qq .sub 5<|qQ .gtr 1<|qe) 24 (rs 25 (qb 2 5<|qt 4 5 0<|qz 5 6<|qe) .ret) <| rs 27 (qb 2 5<|qc 582<|q2 26 (.mov (.l 1))<|qx 0<|qy 1<|qt 2 5 3<|qw 7<|qe) <| i1 31 (qm 7<|qN<|qe) 32 (rs 33 (qb 2 5<|qt 4 5 0<|qz 5 16<|qe) .ret) <| rs 34 (qr 2 1<|qm 1<|qq .add 1<|qf 2 1<|qs 2 1 4 3<|qe) <| rs 39 (qb 2 5<|qt 4 5 0<|qz 5 0<|qe) .ret
def F571 : F := mF 2 [.cell 4 (some 5),.t 5] none c571
attribute [go_sem] c571 F571
def c572 : C := rs 0 (qB 1 0<|qG 2 z_27<|qz 3 0<|qe) <| sq (rs 6 (qb 1 5<|qc 581<|qv 4<|qe) <| rs 8 (qm 4<|qK .neq 0<|qe) <| cd 9 (rs 10 (qb 1 5<|qm 4<|qt 2 5 0<|qw 3<|qe) .ret) .skip) <| rs 13 (qb 1 5<|qc 582<|q2 12 (.mov (.l 1))<|qx 0<|qy 1<|qt 1 5 3<|qw 5<|qe) <| i1 17 (qm 5<|qN<|qe) 18 (rs 19 (qb 1 5<|qt 2 5 0<|qz 3 16<|qe) .ret) <| rs 20 (qr 1 0<|qr 1 1<|qq .add 1<|qf 1 0<|qs 1 1 5 4<|qf 1 1<|q5 (.store (.v 1) 1 (.l 7) (.c (.str [])))<|qe) <| rs 27 (qb 1 5<|qt 2 5 0<|qz 3 0<|qe) .ret
def F572 : F := mF 1 [.cell 2 (some 5),.t 3] none c572
attribute [go_sem] c572 F572
def c573 : C := rs 0 (qB 1 0<|qF 2<|qe) <| rs 3 (qr 1 0<|qh true<|qr 1 1<|qh true<|qq .add 2<|qk .leq 1048576<|ya<|qr 1 2<|qk .geq 0<|za 8<|ya<|qr 1 2<|qk .leq 1099511627776<|za 13<|ya<|qr 1 3<|yo<|qr 1 2<|qk .eql 0<|y1 18<|qo 21<|za 18<|qv 2<|qe) .ret
def F573 : F := mF 1 [.t 2] none c573
attribute [go_sem] c573 F573
def c574 : C := rs 0 (qB 1 0<|qF 2<|qe) <| i1 5 (qr 1 0<|qK .eql 0<|qe) 7 (rs 8 (qf 1 6<|qg 0<|ql 1<|qk .eql 0<|ya<|qf 1 6<|qg 1<|ql 1<|qh false<|qk .eql 0<|za 4<|qv 2<|qe) .ret) <| rs 19 (q1 (.build z_13 [])<|qG 3 z_13<|qs 3 29 1 0<|qe) <| rs 20 (qR 1 8 29<|qG 4 z_13<|qs 4 29 2 1<|qe) <| rs 22 (qr 4 0<|qh false<|qr 4 1<|qh false<|qq .add 2<|qr 4 3<|qh false<|qq .add 6<|qr 4 4<|qh false<|qq .add 10<|qr 4 28<|qh false<|qq .add 14<|qk .eql 0<|ya<|qr 4 2<|qk .eql 0<|za 20<|ya<|qR 4 5 3<|qR 3 5 3<|q1 (.eqa false [.i,.i,.i] (.l 27) (.l 29))<|za 25<|ya<|qR 4 8 20<|qc 583<|za 32<|qv 2<|qe) .ret
def F574 : F := mF 1 [.t 2] none c574
attribute [go_sem] c574 F574
def c580 : C := rs 0 (qE 2<|qe) <| rs 4 (qm 0<|qc 586<|qv 3<|qe) <| rs 6 (qm 0<|qm 3<|q1 (.conv (.int .u8) (.l 1))<|qm 3<|q1 (.sh .shr (.l 3) (.c (.int .u64 8)))<|q1 (.conv (.int .u8) (.l 4))<|qm 3<|q1 (.sh .shr (.l 6) (.c (.int .u64 16)))<|q1 (.conv (.int .u8) (.l 7))<|qm 3<|q1 (.sh .shr (.l 9) (.c (.int .u64 24)))<|q1 (.conv (.int .u8) (.l 10))<|q1 (.mks 1 4 [.int .u8 0] [(0,.l 2),(1,.l 5),(2,.l 8),(3,.l 11)])<|q1 (.b2s (.l 12))<|qq .add 0<|qv 2<|qe) .ret
def F580 : F := mF 1 [.t 2] none c580
attribute [go_sem] c580 F580
def c581 : C := rs 0 (qB 1 0<|qz 2 0<|qe) <| sq (bk 0 (rs 4 (qb 1 5<|qc 573<|qn<|qv 3<|qe) <| cd 3 (rs 0 (qz 2 1<|qe) .ret) <| rs 8 (qr 1 4<|qv 7<|qe) <| cd 7 (rs 0 (qz 2 16<|qe) .ret) .skip)) <| rs 0 (qz 2 0<|qe) .ret
def F581 : F := mF 1 [.t 2] none c581
attribute [go_sem] c581 F581
def c582 : C := rs 0 (qB 1 0<|qG 2 z_27<|qF 3<|qe) <| sq (bk 0 (rs 5 (qr 1 3<|ya<|qr 1 2<|qk .eql 0<|za 2<|qv 4<|qe) <| cd 4 (rs 12 (qf 1 4<|q5 (.store (.v 1) 1 (.l 0) (cb true))<|qe) <| rs 13 (qb 1 5<|qt 2 5 0<|qF 3<|qe) .ret) <| rs 15 (qr 1 3<|qv 14<|qe) <| cd 14 (r1 17 (qr 1 2<|qk .sub 1<|qf 1 2<|qs 1 1 3 2<|qe)) .skip)) <| rs 21 (qb 1 5<|qt 2 5 0<|qT 3<|qe) .ret
def F582 : F := mF 1 [.cell 2 (some 5),.t 3] none c582
attribute [go_sem] c582 F582
def c583 : C := rs 0 (qB 1 0<|qF 2<|qe) <| rs 3 (qr 1 0<|qk .eql 0<|ya<|qr 1 1<|qk .eql 0<|za 3<|ya<|qr 1 2<|qk .eql 0<|za 8<|ya<|qr 1 3<|qk .eql 0<|za 13<|ya<|qr 1 4<|qk .eql 0<|za 18<|ya<|qr 1 5<|qk .eql 0<|za 23<|ya<|qr 1 6<|qk .eql 0<|za 28<|ya<|qr 1 7<|qk .eql 0<|za 33<|ya<|qr 1 8<|q1 (.bin .eql (.l 40) (.c (.str [])))<|za 38<|ya<|qr 1 9<|qh false<|qr 1 15<|qh false<|qq .add 46<|qr 1 19<|qh false<|qq .add 50<|qk .eql 0<|za 43<|ya<|qr 1 10<|qk .eql 0<|za 57<|ya<|qr 1 11<|qk .eql 0<|za 62<|ya<|qr 1 12<|qk .eql 0<|za 67<|ya<|qR 1 13 2<|q1 (.build z_1 [])<|q1 (.eqa false [.s,.s] (.l 74) (.l 75))<|za 72<|ya<|qR 1 16 3<|q1 (.build z_3 [])<|q1 (.eqa false [.i,.i,.i] (.l 80) (.l 81))<|za 78<|qv 2<|qe) .ret
def F583 : F := mF 1 [.t 2] none c583
attribute [go_sem] c583 F583
def c585 : C := rs 0 (qE 2<|qE 3<|qz 4 0<|qe) <| rs 12 (qm 0<|qc 491<|q2 11 (.mov (.l 1))<|qx 0<|qy 1<|qY 2 2<|qV 5 3<|qV 6 4<|qV 7 5<|qe) <| sq (bk 0 (rs 18 (qm 7<|qk .neq 0<|qv 17<|qe) <| cd 17 (rs 20 (qm 7<|qE 2<|qE 3<|qV 4 0<|qe) .ret) <| rs 22 (qm 5<|qk .gtr 1048576<|qv 21<|qe) <| cd 21 (rs 0 (qE 2<|qE 3<|qz 4 3<|qe) .ret) <| rs 25 (qm 6<|qh true<|qm 5<|qk .add 4<|qq .lss 1<|qv 24<|qe) <| cd 24 (rs 0 (qE 2<|qE 3<|qz 4 2<|qe) .ret) .skip)) <| rs 30 (qm 0<|qh true<|qm 6<|qh true<|qq .sub 1<|qm 5<|qq .add 4<|qk .add 4<|qv 8<|qe) <| sq (rs 39 (qm 0<|qm 8<|q1 (.sl true 0 (.l 0) none (some (.l 1)))<|qc 587<|q2 38 (.mov (.l 3))<|qx 0<|qy 1<|qD 9<|q1 (.mov (.l 5))<|q3 (.mov (.l 6))<|qe) <| rs 45 (qm 10<|qK .neq 0<|qe) <| cd 46 (rs 47 (qm 10<|qE 2<|qE 3<|qV 4 0<|qe) .ret) .skip) <| rt 48 (qm 6<|qm 5<|q1 (.sl true 0 (.l 0) none (some (.l 1)))<|qm 0<|qm 8<|q1 (.sl true 0 (.l 3) (some (.l 4)) none)<|qV 2 2<|qw 3<|qz 4 0<|qe) .ret
def F585 : F := mF 1 [.t 2,.t 3,.t 4] none c585
attribute [go_sem] c585 F585
def r586_8 : List Op := (qm 3<|q1 (.sh .shr (.l 0) (.c (.int .u64 1)))<|qm 3<|q1 (.bin .and (.l 2) (.c (.int .u32 1)))<|q1 (.un .neg (.l 3))<|q1 (.bin .and (.c (.int .u32 2197175160)) (.l 4))<|qq .xor 1<|qv 3<|qe) 18 0 none
def b586_1 : C := rs 17 (q3 (.bin .lss (.g 16) (ci 8))<|qe) <| sq (cd 17 .skip <| .exit 2) <| sq (bk 3 (.region false r586_8)) <| r1 25 (q1 (.bin .add (.g 16) (ci 1))<|qv 16<|qe)
def l586_1 : C := .loop [] [] [] [] b586_1
def l586_0 : C := .loop [] [] [] [] (rs 8 (q3 (.bin .lss (.g 7) (.g 6))<|qe) <| sq (cd 8 .skip <| .exit 0) <| sq (bk 1 (rs 9 (qm 7<|qv 4<|qe) <| rs 10 (qm 3<|qm 0<|qm 4<|q1 (.idx (.l 1) (.l 2))<|q1 (.conv (.int .u32) (.l 3))<|qq .xor 0<|qv 3<|qe) <| rs 0 (qz 16 0<|qe) <| bk 2 l586_1)) <| r1 26 (q1 (.bin .add (.g 7) (ci 1))<|qv 7<|qe))
def c586 : C := rs 2 (q3 (.mov (.c (.int .u32 0)))<|qe) <| rs 3 (q3 (.mov (.c (.int .u32 4294967295)))<|qe) <| sq (rs 5 (qm 0<|qH true<|q3 (.mov (ci 0))<|qe) <| bk 0 l586_0) <| rs 27 (qm 3<|q1 (.un .xor (.l 0))<|qv 2<|qe) .ret
def F586 : F := mF 1 [.t 2] none c586
attribute [go_sem] r586_8 b586_1 c586 F586
def c587 : C := rs 0 (qE 2<|qz 3 0<|qe) <| rs 5 (qm 0<|qh true<|qk .sub 4<|qv 4<|qe) <| sq (bk 0 (rs 9 (qm 4<|qk .lss 0<|qv 8<|qe) <| cd 8 (rs 0 (qE 2<|qz 3 2<|qe) .ret) <| rs 12 (qm 0<|qm 4<|q1 (.sl true 0 (.l 0) none (some (.l 1)))<|qc 580<|qm 0<|qq .neq 3<|qv 11<|qe) <| cd 11 (rs 0 (qE 2<|qz 3 4<|qe) .ret) .skip)) <| rs 18 (qm 0<|qm 4<|q1 (.sl true 0 (.l 0) none (some (.l 1)))<|qv 2<|qz 3 0<|qe) .ret
def F587 : F := mF 1 [.t 2,.t 3] none c587
attribute [go_sem] c587 F587
def l589_0 : C := .loop [] [] [3] [] (rs 11 (q3 (.bin .lss (.g 10) (ci 4))<|qe) <| sq (cd 11 .skip <| .exit 0) <| sq (bk 1 (rs 12 (qm 10<|qv 2<|qe) <| rs 14 (qm 2<|q1 (.call (.k 720) .freeze none [.l 0])<|q2 13 (.mov (.l 1))<|qx 0<|qy 1<|qG 3 z_28<|qs 3 38 5 3<|qD 4<|q1 (.mov (.l 4))<|qe) <| r1 18 (qr 1 0<|qb 3 38<|q1 (.mks 38 1 z_28 [(0,.l 2)])<|q1 (.app 22 38 (.l 1) (.l 3))<|qf 1 0<|qs 1 1 5 4<|qe))) <| r1 24 (q1 (.bin .add (.g 10) (ci 1))<|qv 10<|qe))
def l589_1 : C := .loop [] [] [6] [] (rs 26 (q3 (.bin .lss (.g 25) (ci 8))<|qe) <| sq (cd 26 .skip <| .exit 2) <| sq (bk 3 (rs 27 (qm 25<|qv 5<|qe) <| rs 29 (qm 5<|qk .add 1<|q1 (.call (.k 594) .freeze none [.l 1])<|q2 28 (.mov (.l 2))<|qx 0<|qy 1<|qG 6 z_31<|qs 6 18 6 4<|qD 7<|q1 (.mov (.l 5))<|qe) <| r1 34 (qr 1 1<|qb 6 18<|q1 (.mks 18 1 z_31 [(0,.l 2)])<|q1 (.app 38 18 (.l 1) (.l 3))<|qf 1 1<|qs 1 1 5 4<|qe))) <| r1 40 (q1 (.bin .add (.g 25) (ci 1))<|qv 25<|qe))
def c589 : C := rs 0 (qG 0 z_32<|qe) <| rs 8 (q1 (.mks 1 4 [.int .i64 0] [])<|q1 (.build [.nslice 38,.nslice 18,.slice 1 [],.slice 1 []] [(2,1,.l 0)])<|qG 1 z_33<|qs 1 4 2 1<|qe) <| sq (rs 0 (qz 10 0<|qe) <| bk 0 l589_0) <| sq (rs 0 (qz 25 0<|qe) <| bk 2 l589_1) <| rs 41 (qb 1 4<|qt 0 4 0<|qe) .ret
def F589 : F := mF 0 [.cell 0 (some 4)] none c589
attribute [go_sem] c589 F589
def c592 : C := rs 0 (qB 2 0<|qB 3 1<|qG 4 z_32<|qS 5 25<|qz 6 0<|qe) <| i1 9 (qb 2 4<|qc 596<|qN<|qe) 11 (rs 12 (qb 2 4<|qt 4 4 0<|qS 5 25<|qz 6 1<|qe) .ret) <| rt 13 (qr 2 0<|q1 (.call (.k 597) .no (some 0) [.l 1])<|qr 2 1<|q1 (.call (.k 598) .no (some 0) [.l 4])<|qr 2 2<|q1 (.call (.k 69) .no (some 0) [.l 7])<|qr 2 3<|q1 (.call (.k 380) .no (some 0) [.l 10])<|q1 (.build z_32 [(0,1,.l 2),(1,1,.l 5),(2,1,.l 8),(3,1,.l 11)])<|q1 (.build [.nslice 38,.nslice 18,.nslice 1,.nslice 1,.nslice 25] [(0,4,.l 12)])<|q1 (.box (.l 13))<|qv 7<|qe) <| rs 0 (qz 8 1<|qe) <| sq (rs 28 (qf 3 0<|q3 (.load (.v 3) none (.l 0))<|qe) <| bk 0 (sq (rs 31 (q1 (.bin .eql (.g 29) (ci 1))<|qv 30<|qe) <| cd 30 .skip <| rs 32 (q1 (.bin .eql (.g 29) (ci 2))<|qv 30<|qe) <| cd 30 .skip <| rs 33 (q1 (.bin .eql (.g 29) (ci 3))<|qv 30<|qe) <| cd 30 .skip <| r1 34 (q1 (.bin .eql (.g 29) (ci 4))<|qv 30<|qe)) <| cd 30 (r1 35 (qm 7<|qb 3 21<|q1 (.rcall 599 [.l 0,.l 1] 0 27 20000)<|qv 8<|qe)) <| sq (rs 39 (q1 (.bin .eql (.g 29) (ci 5))<|qv 38<|qe) <| cd 38 .skip <| rs 40 (q1 (.bin .eql (.g 29) (ci 9))<|qv 38<|qe) <| cd 38 .skip <| rs 41 (q1 (.bin .eql (.g 29) (ci 10))<|qv 38<|qe) <| cd 38 .skip <| r1 42 (q1 (.bin .eql (.g 29) (ci 11))<|qv 38<|qe)) <| cd 38 (r1 43 (qm 7<|qb 3 21<|q1 (.rcall 600 [.l 0,.l 1] 0 27 20100)<|qv 8<|qe)) <| sq (rs 47 (q1 (.bin .eql (.g 29) (ci 6))<|qv 46<|qe) <| cd 46 .skip <| rs 48 (q1 (.bin .eql (.g 29) (ci 7))<|qv 46<|qe) <| cd 46 .skip <| r1 49 (q1 (.bin .eql (.g 29) (ci 8))<|qv 46<|qe)) <| cd 46 (r1 50 (qm 7<|qb 3 21<|q1 (.rcall 601 [.l 0,.l 1] 0 27 20200)<|qv 8<|qe)) <| rs 54 (q1 (.bin .eql (.g 29) (ci 12))<|qv 53<|qe) <| cd 53 (r2 56 (qm 7<|q1 (.nilc (.l 0))<|qg 0<|qg 0<|ql 27<|qm 7<|q1 (.nilc (.l 5))<|qg 0<|qg 0<|ql 27<|q1 (.iad 38 (.l 9) (ci 0))<|q1 (.load (.x) (some 38) (.l 10))<|qR 3 15 6<|qC 721 (ls [11,13])<|q2 55 (.mov (.l 14))<|qx 0<|qy 1<|q1 (.iad 38 (.l 4) (ci 0))<|q5 (.store (.x) 38 (.l 18) (.l 16))<|qV 8 17<|qe)) <| rs 75 (q1 (.bin .eql (.g 29) (ci 13))<|qv 74<|qe) <| cd 74 (rs 76 (qm 7<|q1 (.rcall 603 [.l 0] 0 27 20300)<|qe) <| r1 0 (qz 8 0<|qe)) .skip)) <| rt 78 (qm 7<|q1 (.nilc (.l 0))<|qg 0<|q1 (.load (.v 27) (some 4) (.l 2))<|qm 7<|q1 (.nilc (.l 4))<|qg 4<|ql 27<|qm 8<|qt 4 4 3<|qV 5 7<|qV 6 8<|qe) .ret
def F592 : F := mF 2 [.cell 4 (some 4),.t 5,.t 6] none c592
attribute [go_sem] c592 F592
def c720 : C := rs 0 (qG 2 z_28<|qz 3 0<|qe) <| rs 7 (qm 0<|q1 (.build z_28 [(0,1,.l 0),(37,1,.c (.bool true))])<|qG 4 z_28<|qs 4 38 2 1<|qe) <| sq (rs 9 (qm 0<|qK .eql 0<|qe) <| cd 10 (r1 11 (q0 327<|qf 4 8<|qs 4 29 1 0<|qe)) <| rs 14 (qm 0<|qc 395<|q2 13 (.mov (.l 1))<|qx 0<|qy 1<|qG 5 z_20<|qs 5 2 5 3<|qV 6 4<|qe) <| i1 18 (qm 6<|qK .neq 0<|qe) 19 (rs 20 (q1 (.build z_28 [])<|qm 6<|qt 2 38 0<|qw 3<|qe) .ret) <| r1 22 (qb 5 2<|qf 4 6<|qs 4 2 1 0<|qe)) <| rt 25 (qR 4 1 5<|qb 4 38<|qc 722<|q1 (.inv [(155,553),(192,554)] (.l 3) [])<|qC 555 (ls [1,4])<|q2 24 (.mov (.l 5))<|qx 0<|qy 1<|qf 4 1<|qs 4 5 9 7<|qe) <| rs 34 (qb 4 38<|qt 2 38 0<|qz 3 0<|qe) .ret
def F720 : F := mF 1 [.cell 2 (some 38),.t 3] none c720
attribute [go_sem] c720 F720
def c594 : C := rs 0 (qG 2 z_31<|qz 3 0<|qe) <| i1 4 (qm 0<|qk .lss 1<|yo<|qm 0<|qk .gtr 8<|zO 2<|qe) 9 (rs 10 (q1 (.build z_31 [])<|qt 2 18 0<|qz 3 1<|qe) .ret) <| rs 11 (qm 0<|q1 (.build z_31 [(0,1,.l 0),(1,1,.c (.int .i64 1))])<|qt 2 18 1<|qz 3 0<|qe) .ret
def F594 : F := mF 1 [.cell 2 (some 18),.t 3] none c594
attribute [go_sem] c594 F594
def c596 : C := rs 0 (qB 1 0<|qF 2<|qe) <| rs 3 (qr 1 0<|qh false<|qk .eql 4<|ya<|qr 1 2<|qh false<|qk .eql 4<|za 4<|ya<|qr 1 1<|qh false<|qk .eql 8<|za 10<|qv 2<|qe) .ret
def F596 : F := mF 1 [.t 2] none c596
attribute [go_sem] c596 F596
def c599 : C := rs 0 (qB 3 1<|qz 4 0<|qe) <| i1 7 (qr 3 1<|qc 612<|qN<|qe) 10 (rs 0 (qz 4 7<|qe) .ret) <| rt 11 (qm 0<|q1 (.nilc (.l 0))<|qg 0<|qg 1<|ql 0<|qr 3 1<|qk .sub 1<|q1 (.iad 18 (.l 4) (.l 7))<|q1 (.load (.x) (some 18) (.l 8))<|qG 5 z_31<|qs 5 18 10 9<|qe) <| rs 0 (qz 6 0<|qe) <| sq (rs 21 (qf 3 0<|q3 (.load (.v 3) none (.l 0))<|qe) <| bk 0 (rs 24 (q1 (.bin .eql (.g 22) (ci 1))<|qv 23<|qe) <| cd 23 (r1 26 (qb 5 18<|qR 3 3 12<|qC 613 (ls [0,2])<|q2 25 (.mov (.l 3))<|qx 0<|qy 1<|qt 5 18 5<|qw 6<|qe)) <| rs 33 (q1 (.bin .eql (.g 22) (ci 2))<|qv 32<|qe) <| cd 32 (r1 35 (qb 5 18<|qf 3 3<|qg 3<|ql 3<|qf 3 3<|qg 10<|ql 3<|qC 614 (ls [0,3,6])<|q2 34 (.mov (.l 7))<|qx 0<|qy 1<|qt 5 18 9<|qw 6<|qe)) <| rs 46 (q1 (.bin .eql (.g 22) (ci 3))<|qv 45<|qe) <| cd 45 (r1 47 (qm 0<|qb 5 18<|qr 3 2<|qC 615 (ls [1,3])<|q1 (.rcall 616 [.l 0,.l 4] 0 0 20000)<|qe)) <| rs 54 (q1 (.bin .eql (.g 22) (ci 4))<|qv 53<|qe) <| cd 53 (rs 55 (qm 0<|qr 3 1<|q1 (.rcall 617 [.l 0,.l 2] 0 0 20100)<|qe) <| rs 0 (qz 4 0<|qe) .ret) .skip)) <| rt 59 (qm 0<|q1 (.nilc (.l 0))<|qg 0<|qg 1<|ql 0<|qr 3 1<|qk .sub 1<|qb 5 18<|q1 (.iad 18 (.l 4) (.l 7))<|q5 (.store (.x) 18 (.l 9) (.l 8))<|qe) <| rs 69 (qm 6<|qv 4<|qe) .ret
def F599 : F := mF 2 [.t 4] none c599
attribute [go_sem] c599 F599
def c600 : C := rs 0 (qB 3 1<|qz 4 0<|qe) <| i1 7 (qr 3 1<|qc 618<|qN<|qe) 10 (rs 0 (qz 4 7<|qe) .ret) <| rt 11 (qm 0<|q1 (.nilc (.l 0))<|qg 0<|qg 0<|ql 0<|qr 3 1<|q1 (.iad 38 (.l 4) (.l 6))<|q1 (.load (.x) (some 38) (.l 7))<|qG 5 z_28<|qs 5 38 9 8<|qe) <| rs 0 (qz 6 0<|qe) <| sq (rs 20 (qf 3 0<|q3 (.load (.v 3) none (.l 0))<|qe) <| bk 0 (rs 23 (q1 (.bin .eql (.g 21) (ci 5))<|qv 22<|qe) <| cd 22 (rs 24 (qm 0<|qr 3 1<|q1 (.rcall 619 [.l 0,.l 2] 0 0 20000)<|qv 4<|qe) .ret) <| rs 29 (q1 (.bin .eql (.g 21) (ci 9))<|qv 28<|qe) <| cd 28 (i1 30 (qr 3 2<|qk .lss 0<|yo<|qr 3 2<|qk .gtr 1099511627776<|zO 3<|qe) 37 (rs 0 (qz 4 1<|qe) .ret) <| r2 38 (qm 0<|q1 (.nilc (.l 0))<|qg 0<|qg 2<|ql 0<|qr 3 1<|qr 3 2<|q1 (.iad 1 (.l 4) (.l 6))<|q5 (.store (.x) 1 (.l 9) (.l 8))<|qe)) <| rs 49 (q1 (.bin .eql (.g 21) (ci 10))<|qv 48<|qe) <| cd 48 (r1 50 (qb 5 38<|qr 3 2<|qC 723 (ls [0,2])<|qt 5 38 3<|qe)) <| rs 55 (q1 (.bin .eql (.g 21) (ci 11))<|qv 54<|qe) <| cd 54 (r1 57 (qb 5 38<|qr 3 2<|qC 724 (ls [0,2])<|q2 56 (.mov (.l 3))<|qx 0<|qy 1<|qt 5 38 5<|qw 6<|qe)) .skip)) <| rt 63 (qm 0<|q1 (.nilc (.l 0))<|qg 0<|qg 0<|ql 0<|qr 3 1<|qb 5 38<|q1 (.iad 38 (.l 4) (.l 6))<|q5 (.store (.x) 38 (.l 8) (.l 7))<|qe) <| rs 72 (qm 6<|qv 4<|qe) .ret
def F600 : F := mF 2 [.t 4] none c600
attribute [go_sem] c600 F600
def c601 : C := rs 0 (qB 3 1<|qz 4 0<|qe) <| i2 5 (qr 3 2<|qk .lss 0<|yo<|qr 3 2<|qm 0<|q1 (.nilc (.l 6))<|qg 0<|qg 3<|ql 0<|qh false<|qq .geq 5<|zO 3<|qe) 18 (rs 0 (qz 4 7<|qe) .ret) <| sq (rs 19 (qf 3 0<|q3 (.load (.v 3) none (.l 0))<|qe) <| bk 0 (rs 22 (q1 (.bin .eql (.g 20) (ci 6))<|qv 21<|qe) <| cd 21 (rs 23 (qm 0<|qr 3 2<|q1 (.rcall 620 [.l 0,.l 2] 0 0 20000)<|qv 4<|qe) .ret) <| rs 28 (q1 (.bin .eql (.g 20) (ci 7))<|qv 27<|qe) <| cd 27 (r2 29 (qm 0<|qm 0<|q1 (.nilc (.l 1))<|qg 0<|qg 3<|ql 0<|qr 3 2<|qr 3 2<|qk .add 1<|q1 (.del 621 9003 1 (.l 5) (.l 7) (.l 10))<|q1 (.nilc (.l 0))<|qg 0<|qg 3<|qs 0 1 14 11<|qe)) <| rs 45 (q1 (.bin .eql (.g 20) (ci 8))<|qv 44<|qe) <| cd 44 (i1 46 (qm 0<|q1 (.nilc (.l 0))<|qg 0<|qg 3<|ql 0<|qh false<|qK .geq 256<|qe) 52 (rs 0 (qz 4 6<|qe) .ret) <| r2 53 (qm 0<|qm 0<|q1 (.nilc (.l 1))<|qg 0<|qg 3<|ql 0<|qm 0<|q1 (.nilc (.l 6))<|qg 0<|qg 3<|ql 0<|qr 3 2<|q1 (.iad 1 (.l 10) (.l 12))<|q1 (.load (.x) none (.l 13))<|q1 (.mks 1 1 [.str []] [(0,.l 14)])<|q1 (.appd 1 (.l 5) (.l 15))<|q1 (.nilc (.l 0))<|qg 0<|qg 3<|qs 0 1 19 16<|qe)) .skip)) <| rs 0 (qz 4 0<|qe) .ret
def F601 : F := mF 2 [.t 4] none c601
attribute [go_sem] c601 F601
def l603_0 : C := .loop [] [0,0,9000,0,1,9001,0,2,9002,0,3,9003,0,4,9004] [] [20000,20001,20002,20003,20004] (rs 12 (q3 (.bin .lss (.g 11) (.g 10))<|qe) <| sq (cd 12 .skip <| .exit 0) <| sq (bk 1 (rs 13 (qm 11<|qv 2<|qe) <| rs 14 (qm 0<|q1 (.nilc (.l 0))<|qg 0<|qg 0<|ql 0<|qm 2<|qi 38<|qg 37<|q3 (.load (.x) none (.l 7))<|qe) <| cd 22 (r1 23 (qm 0<|qm 2<|q1 (.rcall 619 [.l 0,.l 1] 0 0 20000)<|qe)) .skip)) <| r1 26 (q1 (.bin .add (.g 11) (ci 1))<|qv 11<|qe))
def l603_1 : C := .loop [] [0,0,9000,0,1,9001,0,2,9002,0,3,9003,0,4,9004] [] [20100,20101,20102,20103,20104] (rs 34 (q3 (.bin .lss (.g 33) (.g 32))<|qe) <| sq (cd 34 .skip <| .exit 2) <| sq (bk 3 (rs 35 (qm 33<|qv 3<|qe) <| r1 36 (qm 0<|qm 3<|qk .add 1<|q1 (.rcall 617 [.l 0,.l 2] 0 0 20100)<|qe))) <| r1 40 (q1 (.bin .add (.g 33) (ci 1))<|qv 33<|qe))
def l603_2 : C := .loop [] [0,0,9000,0,1,9001,0,2,9002,0,3,9003,0,4,9004] [] [20200,20201,20202,20203,20204] (lq 41 (qm 4<|qk .lss 1000<|ya<|qm 0<|q1 (.nilc (.l 3))<|qg 0<|qg 3<|ql 0<|qh false<|qk .gtr 0<|zA 2<|qe) 51 4 <| sq (bk 5 (r1 54 (qm 0<|q1 (.rcall 620 [.l 0,.c (.int .i64 0)] 0 0 20200)<|qe))) <| r1 52 (qm 4<|qk .add 1<|qv 4<|qe))
def c603 : C := sq (rs 5 (qm 0<|q1 (.nilc (.l 0))<|qg 0<|qg 0<|ql 0<|qH false<|q3 (.mov (ci 0))<|qe) <| bk 0 l603_0) <| sq (rs 27 (qm 0<|q1 (.nilc (.l 0))<|qg 0<|qg 1<|ql 0<|qH false<|q3 (.mov (ci 0))<|qe) <| bk 2 l603_1) <| rs 0 (qz 4 0<|qe) <| bk 4 l603_2
def F603 : F := mF 1 [] none c603
attribute [go_sem] c603 F603
def c722 : C := rs 2 (qB 1 0<|q3 (.mov (.c (.niface)))<|qe) <| i1 3 (qr 1 0<|qK .eql 0<|qe) 5 (rs 6 (qR 1 8 29<|q1 (.build z_13 [(0,29,.l 1)])<|q1 (.mif 155 (.l 2))<|qv 2<|qe) .ret) <| rs 10 (qR 1 6 2<|q1 (.build z_20 [(0,2,.l 1)])<|q1 (.mif 192 (.l 2))<|qv 2<|qe) .ret
def F722 : F := mF 1 [.t 2] none c722
attribute [go_sem] c722 F722
def c612 : C := rs 0 (qF 2<|qe) <| rs 3 (qm 0<|qk .geq 1<|ya<|qm 0<|qk .leq 8<|za 2<|qv 2<|qe) .ret
def F612 : F := mF 1 [.t 2] none c612
attribute [go_sem] c612 F612
def c613 : C := rs 0 (qB 2 0<|qB 3 1<|qG 4 z_31<|qz 5 0<|qe) <| sq (rs 7 (qb 2 18<|qc 626<|qv 6<|qe) <| rs 9 (qm 6<|qK .neq 0<|qe) <| cd 10 (rs 11 (qb 2 18<|qm 6<|qt 4 18 0<|qw 5<|qe) .ret) .skip) <| rs 13 (qb 2 18<|qb 3 12<|qC 627 [.l 0,.l 1,cb false]<|qx 0<|qy 1<|qt 4 18 3<|qw 5<|qe) .ret
def F613 : F := mF 2 [.cell 4 (some 18),.t 5] none c613
attribute [go_sem] c613 F613
def l616_0 : C := .loop [] [0,0,9000,0,1,9001,0,2,9002,0,3,9003,0,4,9004] [5] [] (rs 13 (q3 (.bin .lss (.g 12) (.g 11))<|qe) <| sq (cd 13 .skip <| .exit 0) <| sq (bk 1 (rs 14 (q1 (.iad 36 (.g 10) (.g 12))<|qJ 36<|qG 5 z_16<|qs 5 36 2 1<|qe) <| rs 17 (qb 5 36<|qc 529<|q2 16 (.mov (.l 1))<|qx 0<|qy 1<|qw 6<|qw 7<|qe) <| rs 22 (qm 6<|qc 570<|q2 21 (.mov (.l 1))<|qx 0<|qy 1<|qw 8<|qw 9<|qe) <| rs 26 (qm 0<|q1 (.nilc (.l 0))<|qg 0<|qg 3<|ql 0<|qh false<|qk .lss 256<|ya<|qm 7<|qk .eql 0<|za 7<|ya<|qm 9<|qk .eql 0<|zA 11<|qe) <| cd 40 (r1 41 (qm 0<|qm 0<|q1 (.nilc (.l 1))<|qg 0<|qg 3<|ql 0<|qm 8<|q1 (.mks 1 1 [.str []] [(0,.l 6)])<|q1 (.appd 1 (.l 5) (.l 7))<|q1 (.nilc (.l 0))<|qg 0<|qg 3<|qs 0 1 11 8<|qe)) .skip)) <| r1 53 (q1 (.bin .add (.g 12) (ci 1))<|qv 12<|qe))
def c616 : C := rs 10 (q3 (.mov (.g 1))<|qH false<|q3 (.mov (ci 0))<|qe) <| bk 0 l616_0
def F616 : F := mF 2 [] none c616
attribute [go_sem] c616 F616
def c617 : C := rs 8 (qm 0<|q1 (.nilc (.l 0))<|qg 0<|qg 1<|ql 0<|qm 1<|qk .sub 1<|q1 (.iad 18 (.l 4) (.l 6))<|q1 (.load (.x) (some 18) (.l 7))<|qc 629<|q2 7 (.mov (.l 9))<|qx 0<|qy 1<|qY 10 2<|qG 4 z_31<|qG 6 z_34<|qs 4 18 14 11<|qV 5 12<|qs 6 24 15 13<|qe) <| rt 21 (qm 0<|q1 (.nilc (.l 0))<|qg 0<|qg 1<|ql 0<|qm 1<|qk .sub 1<|qb 4 18<|q1 (.iad 18 (.l 4) (.l 6))<|q5 (.store (.x) 18 (.l 8) (.l 7))<|qe) <| rs 30 (qm 0<|qm 5<|q1 (.rcall 616 [.l 0,.l 1] 0 0 20000)<|qe) <| r1 33 (qm 0<|qm 1<|qb 6 24<|q1 (.rcall 630 [.l 0,.l 1,.l 2] 0 0 20100)<|qe)
def F617 : F := mF 2 [] none c617
attribute [go_sem] c617 F617
def c618 : C := rs 0 (qF 2<|qe) <| rs 3 (qm 0<|qk .geq 0<|ya<|qm 0<|qk .leq 3<|za 2<|qv 2<|qe) .ret
def F618 : F := mF 1 [.t 2] none c618
attribute [go_sem] c618 F618
def c619 : C := rs 0 (qz 4 0<|qe) <| rs 9 (qm 0<|q1 (.nilc (.l 0))<|qg 0<|qg 0<|ql 0<|qm 1<|qi 38<|q1 (.load (.x) (some 38) (.l 6))<|qc 726<|q2 8 (.mov (.l 8))<|qx 0<|qy 1<|qY 9 2<|qG 5 z_28<|qs 5 38 13 10<|qV 6 11<|qV 7 12<|qe) <| rt 21 (qm 0<|q1 (.nilc (.l 0))<|qg 0<|qg 0<|ql 0<|qm 1<|qb 5 38<|q1 (.iad 38 (.l 4) (.l 5))<|q5 (.store (.x) 38 (.l 7) (.l 6))<|qe) <| rs 29 (qm 0<|qm 6<|q1 (.rcall 616 [.l 0,.l 1] 0 0 20000)<|qe) <| rs 32 (qm 7<|qv 4<|qe) .ret
def F619 : F := mF 2 [.t 4] none c619
attribute [go_sem] c619 F619
def c620 : C := rs 0 (qz 4 0<|qe) <| rs 18 (qm 0<|q1 (.nilc (.l 0))<|qg 0<|qg 3<|ql 0<|qm 1<|qi 1<|q1 (.load (.x) none (.l 6))<|qv 5<|qe) <| rs 26 (qm 0<|qm 0<|q1 (.nilc (.l 1))<|qg 0<|qg 3<|ql 0<|qm 1<|qm 1<|qk .add 1<|q1 (.del 621 9003 1 (.l 5) (.l 6) (.l 8))<|q1 (.nilc (.l 0))<|qg 0<|qg 3<|qs 0 1 12 9<|qe) <| rs 40 (qm 5<|q1 (.call (.k 585) .borrow none [.l 0])<|q2 39 (.mov (.l 1))<|qx 0<|qy 1<|qY 2 2<|qV 6 3<|qD 7<|q1 (.mov (.l 4))<|q1 (.mov (.l 5))<|qe) <| rs 46 (qm 6<|q1 (.call (.k 566) .freeze none [.l 0])<|q2 45 (.mov (.l 1))<|qx 0<|qy 1<|qG 9 z_16<|qs 9 36 5 3<|qD 10<|q1 (.mov (.l 4))<|qe) <| sq (rs 50 (qr 9 2<|qk .sub 10<|qv 11<|qe) <| rs 53 (qm 11<|q3 (.call (.k 612) .borrow none [.l 0])<|qe) <| cd 54 (rt 56 (qm 0<|q1 (.nilc (.l 0))<|qg 0<|qg 1<|ql 0<|qm 11<|qk .sub 1<|q1 (.iad 18 (.l 4) (.l 6))<|q1 (.load (.x) (some 18) (.l 7))<|qb 9 36<|q1 (.call (.k 632) .freeze none [.l 8,.l 9])<|q2 55 (.mov (.l 10))<|qx 0<|qy 1<|qY 11 2<|qG 12 z_31<|qG 14 z_34<|qs 12 18 15 12<|qV 13 13<|qs 14 24 16 14<|qe) <| rt 70 (qm 0<|q1 (.nilc (.l 0))<|qg 0<|qg 1<|ql 0<|qm 11<|qk .sub 1<|qb 12 18<|q1 (.iad 18 (.l 4) (.l 6))<|q5 (.store (.x) 18 (.l 8) (.l 7))<|qe) <| rs 79 (qm 0<|qm 13<|q1 (.rcall 616 [.l 0,.l 1] 0 0 20000)<|qe) <| rs 82 (qm 0<|qm 11<|qb 14 24<|q1 (.rcall 630 [.l 0,.l 1,.l 2] 0 0 20100)<|qe) <| rs 0 (qz 4 0<|qe) .ret) .skip) <| i1 86 (qr 9 2<|q1 (.call (.k 618) .borrow none [.l 1])<|qN<|qe) 89 (rs 0 (qz 4 0<|qe) .ret) <| rt 91 (qm 0<|q1 (.nilc (.l 0))<|qg 0<|qg 0<|ql 0<|qr 9 2<|q1 (.iad 38 (.l 4) (.l 6))<|q1 (.load (.x) (some 38) (.l 7))<|qm 0<|q1 (.nilc (.l 9))<|qg 0<|qg 2<|ql 0<|qr 9 2<|q1 (.iad 1 (.l 13) (.l 15))<|q1 (.load (.x) none (.l 16))<|qb 9 36<|q1 (.call (.k 727) .freeze none [.l 8,.l 17,.l 18])<|q2 90 (.mov (.l 19))<|qx 0<|qy 1<|qY 20 2<|qG 15 z_28<|qs 15 38 24 21<|qV 16 22<|qV 17 23<|qe) <| rt 114 (qm 0<|q1 (.nilc (.l 0))<|qg 0<|qg 0<|ql 0<|qr 9 2<|qb 15 38<|q1 (.iad 38 (.l 4) (.l 6))<|q5 (.store (.x) 38 (.l 8) (.l 7))<|qe) <| rs 123 (qm 0<|qm 16<|q1 (.rcall 616 [.l 0,.l 1] 0 0 20200)<|qe) <| rs 126 (qm 17<|qv 4<|qe) .ret
def F620 : F := mF 2 [.t 4] none c620
attribute [go_sem] c620 F620
def c725 : C := rs 0 (qB 2 0<|qG 4 z_28<|qz 5 0<|qe) <| rs 8 (qm 1<|q1 (.inv [(155,553),(192,554)] (.l 0) [])<|qv 6<|qe) <| i1 10 (qm 6<|qb 2 38<|qc 722<|q1 (.inv [(155,553),(192,554)] (.l 2) [])<|qQ .eql 0<|qe) 14 (rs 15 (qb 2 38<|qt 4 38 0<|qz 5 0<|qe) .ret) <| rs 0 (qz 7 0<|qe) <| sq (rs 16 (qf 2 1<|qg 0<|ql 2<|qh true<|qf 2 1<|qg 1<|ql 2<|qh true<|qq .add 3<|qK .gtr 16384<|qe) <| cd 25 (r1 27 (qR 2 1 5<|qm 6<|qd 575<|q2 26 (.mov (.l 3))<|qx 0<|qy 1<|qf 2 1<|qs 2 5 7 5<|qV 7 6<|qe)) <| r1 35 (qR 2 1 5<|qm 6<|qd 555<|q2 34 (.mov (.l 3))<|qx 0<|qy 1<|qf 2 1<|qs 2 5 7 5<|qV 7 6<|qe)) <| i1 42 (qm 7<|qK .neq 0<|qe) 43 (rs 44 (qm 7<|qk .neq 16<|qf 2 37<|qs 2 1 2 1<|qe) <| rs 47 (qb 2 38<|qm 7<|qt 4 38 0<|qw 5<|qe) .ret) <| rs 49 (qb 2 38<|qm 1<|qd 728<|qt 4 38 2<|qz 5 0<|qe) .ret
def F725 : F := mF 2 [.cell 4 (some 38),.t 5] none c725
attribute [go_sem] c725 F725
def c626 : C := rs 0 (qB 1 0<|qz 2 0<|qe) <| sq (bk 0 (rs 4 (qb 1 18<|qc 628<|qn<|qv 3<|qe) <| cd 3 (rs 0 (qz 2 1<|qe) .ret) <| rs 8 (qf 1 4<|qg 1<|ql 1<|qk .neq 0<|qv 7<|qe) <| cd 7 (rs 0 (qz 2 11<|qe) .ret) <| rs 13 (qr 1 1<|qk .eql 1099511627776<|qv 12<|qe) <| cd 12 (rs 0 (qz 2 6<|qe) .ret) .skip)) <| rs 0 (qz 2 0<|qe) .ret
def F626 : F := mF 1 [.t 2] none c626
attribute [go_sem] c626 F626
def c627 : C := rs 0 (qB 3 0<|qB 4 1<|qG 6 z_31<|qz 7 0<|qe) <| rs 9 (qb 3 18<|qG 8 z_31<|qs 8 18 1 0<|qe) <| rt 10 (qr 3 0<|qr 3 1<|qf 4 0<|qs 4 1 4 1<|qf 4 1<|qs 4 1 6 3<|qe) <| rs 16 (qb 4 12<|qm 2<|qf 8 4<|qs 8 12 2 0<|qf 8 16<|qs 8 1 4 1<|qf 8 17<|qu 8 6 12<|qe) <| rs 21 (qr 8 1<|qk .add 1<|qf 8 1<|qs 8 1 3 2<|qe) <| i1 25 (qb 8 18<|qc 628<|qN<|qe) 27 (rs 28 (qb 3 18<|qt 6 18 0<|qz 7 1<|qe) .ret) <| rs 29 (qb 8 18<|qt 6 18 0<|qz 7 0<|qe) .ret
def F627 : F := mF 3 [.cell 6 (some 18),.t 7] none c627
attribute [go_sem] c627 F627
def c628 : C := rs 0 (qB 1 0<|qF 2<|qe) <| i1 3 (qr 1 0<|qk .lss 1<|yo<|qr 1 0<|qk .gtr 8<|zo 3<|yo<|qr 1 1<|qk .lss 1<|zo 8<|yo<|qr 1 1<|qk .gtr 1099511627776<|zo 13<|yo<|qr 1 17<|qk .lss 0<|zo 18<|yo<|qr 1 17<|qk .gtr 12<|zO 23<|qe) 30 (rs 0 (qF 2<|qe) .ret) <| i1 31 (qr 1 2<|qh false<|qr 1 3<|qh false<|qq .add 2<|qk .gtr 0<|ya<|qr 1 2<|qr 1 3<|qC 636 (ls [10,12])<|qn<|zA 8<|qe) 46 (rs 0 (qF 2<|qe) .ret) <| sq (bk 0 (rs 48 (qf 1 4<|qg 1<|ql 1<|qk .eql 0<|qv 47<|qe) <| cd 47 (rs 0 (qT 2<|qe) .ret) <| rs 53 (qf 1 4<|qg 0<|ql 1<|qr 1 0<|qq .neq 2<|yo<|qf 1 4<|qg 1<|ql 1<|qk .lss 1<|zo 6<|yo<|qf 1 4<|qg 1<|ql 1<|qr 1 1<|qq .geq 15<|zo 12<|qv 52<|qe) <| cd 52 (rs 0 (qF 2<|qe) .ret) <| rs 74 (qr 1 16<|qv 73<|qe) <| cd 73 (rs 76 (qf 1 4<|qg 2<|ql 1<|qk .eql 0<|ya<|qf 1 4<|qg 3<|ql 1<|qf 1 4<|qg 10<|ql 1<|q1 (.build z_1 [(0,1,.l 7),(1,1,.l 10)])<|qc 186<|za 4<|qv 2<|qe) .ret) .skip)) <| rs 90 (qR 1 4 12<|qc 285<|qv 2<|qe) .ret
def F628 : F := mF 1 [.t 2] none c628
attribute [go_sem] c628 F628
def c629 : C := rs 0 (qB 1 0<|qG 2 z_31<|qS 3 36<|qG 4 z_34<|qe) <| sq (bk 0 (rs 6 (qb 1 18<|qc 628<|qn<|yo<|qf 1 4<|qg 1<|ql 1<|qk .eql 0<|zo 3<|qv 5<|qe) <| cd 5 (rs 15 (qb 1 18<|q1 (.build z_34 [])<|qt 2 18 0<|qS 3 36<|qt 4 24 1<|qe) .ret) <| rs 18 (qr 1 17<|qk .eql 0<|qv 17<|qe) <| cd 17 (rs 21 (qb 1 18<|q1 (.build z_9 [(0,1,.c (.int .i64 14))])<|qC 637 [.l 0,.l 1,ci 0]<|qx 0<|qy 1<|qY 2 2<|qt 2 18 3<|qV 3 4<|qt 4 24 5<|qe) .ret) .skip)) <| rs 27 (qr 1 17<|qk .sub 1<|qf 1 17<|qs 1 1 3 2<|qe) <| rt 31 (qb 1 18<|qb 1 18<|qc 638<|q1 (.build z_34 [])<|qt 2 18 0<|qV 3 2<|qt 4 24 3<|qe) .ret
def F629 : F := mF 1 [.cell 2 (some 18),.t 3,.cell 4 (some 24)] none c629
attribute [go_sem] c629 F629
def c630 : C := rs 0 (qB 5 2<|qe) <| rs 6 (qf 5 0<|q3 (.load (.v 5) none (.l 0))<|qe) <| cd 7 (r2 8 (qm 0<|qm 0<|q1 (.nilc (.l 1))<|qg 4<|ql 0<|qm 1<|qb 5 24<|q1 (.build z_35 [(0,1,.l 5),(1,24,.l 6)])<|q1 (.mks 25 1 z_35 [(0,.l 7)])<|q1 (.appd 25 (.l 4) (.l 8))<|q1 (.nilc (.l 0))<|qg 4<|qs 0 1 11 9<|qe)) .skip
def F630 : F := mF 3 [] none c630
attribute [go_sem] c630 F630
def c726 : C := rs 0 (qB 1 0<|qG 2 z_28<|qS 3 36<|qz 4 0<|qe) <| sq (rs 9 (qb 1 38<|qc 558<|qv 5<|qe) <| rs 11 (qm 5<|qK .neq 0<|qe) <| cd 12 (rs 13 (qb 1 38<|qm 5<|qt 2 38 0<|qS 3 36<|qV 4 1<|qe) .ret) .skip) <| rs 16 (qb 1 38<|qc 722<|q1 (.inv [(155,729),(192,730)] (.l 1) [])<|q2 15 (.mov (.l 2))<|qx 0<|qy 1<|qw 6<|qw 7<|qe) <| rs 22 (qb 1 38<|qm 6<|qd 725<|q2 21 (.mov (.l 2))<|qx 0<|qy 1<|qt 1 38 4<|qw 8<|qe) <| rs 27 (qb 1 38<|qm 7<|qm 8<|qC 562 (ls [0,1,2])<|qx 0<|qy 1<|qY 3 2<|qt 2 38 4<|qV 3 5<|qV 4 6<|qe) .ret
def F726 : F := mF 1 [.cell 2 (some 38),.t 3,.t 4] none c726
attribute [go_sem] c726 F726
def c632 : C := rs 0 (qB 2 0<|qB 3 1<|qG 4 z_31<|qS 5 36<|qG 6 z_34<|qe) <| i1 9 (qb 2 18<|qc 628<|qn<|yo<|qb 3 36<|qc 341<|qn<|zo 3<|yo<|qr 3 2<|qr 2 0<|q1 (.bin .add (ci 10) (.l 12))<|qq .neq 10<|zO 8<|qe) 24 (rs 25 (qb 2 18<|q1 (.build z_34 [])<|qt 4 18 0<|qS 5 36<|qt 6 24 1<|qe) .ret) <| rs 27 (qf 2 4<|qg 1<|ql 2<|qk .neq 0<|ya<|qr 2 16<|qn<|za 4<|qv 7<|qe) <| sq (rs 36 (qf 3 0<|q3 (.load (.v 3) none (.l 0))<|qe) <| bk 0 (rs 39 (q1 (.bin .eql (.g 37) (ci 4))<|qv 38<|qe) <| cd 38 (i1 40 (qr 3 34<|qr 3 35<|qC 636 (ls [1,3])<|qN<|qe) 45 (.exit 0) <| rt 46 (qr 3 34<|qc 179<|qr 3 35<|qc 69<|qf 2 2<|qs 2 1 6 2<|qf 2 3<|qs 2 1 8 5<|qe) <| rs 54 (qm 7<|ya<|qr 2 17<|qk .gtr 0<|zA 1<|qe) <| cd 59 (rt 60 (qb 2 18<|qb 2 18<|qc 638<|q1 (.build z_34 [])<|qt 4 18 0<|qV 5 2<|qt 6 24 3<|qe) .ret) .skip) <| rs 65 (q1 (.bin .eql (.g 37) (ci 2))<|qv 64<|qe) <| cd 64 (i1 66 (qm 7<|qn<|yo<|qf 3 13<|qg 0<|ql 3<|qr 2 0<|qq .neq 5<|zo 2<|yo<|qf 3 13<|qg 1<|ql 3<|qf 2 4<|qg 1<|ql 2<|qq .neq 13<|zO 10<|qe) 84 (.exit 0) <| rs 85 (qf 3 25<|qg 0<|q3 (.load (.v 3) none (.l 1))<|qe) <| bk 1 (rs 96 (q1 (.bin .eql (.g 87) (ci 10))<|qv 95<|qe) <| cd 95 (r1 97 (qf 2 2<|q5 (.store (.v 2) 1 (.l 0) (.c (.slice 5 [])))<|qf 2 3<|q5 (.store (.v 2) 1 (.l 2) (.c (.slice 1 [])))<|qe)) <| rs 100 (q1 (.bin .eql (.g 87) (ci 11))<|qv 99<|qe) <| cd 99 .skip <| rs 88 (qb 2 18<|qR 3 25 9<|qC 637 [.l 0,.l 2,ci 0]<|qx 0<|qy 1<|qY 3 2<|qt 4 18 4<|qV 5 5<|qt 6 24 6<|qe) .ret)) <| rs 102 (q1 (.bin .eql (.g 37) (ci 6))<|qv 101<|qe) <| cd 101 (rs 103 (qf 2 4<|qg 1<|ql 2<|qk .neq 0<|ya<|qr 2 16<|za 4<|ya<|qr 3 7<|qf 2 4<|qg 1<|ql 2<|qq .eql 10<|zA 8<|qe) <| cd 118 (rs 119 (qR 3 25 9<|qG 8 z_9<|qs 8 9 2 1<|qe) <| rs 121 (qR 3 9 3<|qf 8 1<|qs 8 3 2 1<|qe) <| rs 124 (qb 2 18<|qb 8 9<|qr 3 6<|qC 637 (ls [0,1,3])<|qx 0<|qy 1<|qY 4 2<|qt 4 18 5<|qV 5 6<|qt 6 24 7<|qe) .ret) .skip) .skip)) <| rs 132 (qb 2 18<|q1 (.build z_34 [])<|qt 4 18 0<|qS 5 36<|qt 6 24 1<|qe) .ret
def F632 : F := mF 2 [.cell 4 (some 18),.t 5,.cell 6 (some 24)] none c632
attribute [go_sem] c632 F632
def c727 : C := rs 0 (qB 3 0<|qB 5 2<|qG 6 z_28<|qS 7 36<|qz 8 0<|qe) <| sq (rs 13 (qb 3 38<|qc 558<|qv 9<|qe) <| rs 15 (qm 9<|qK .neq 0<|qe) <| cd 16 (rs 17 (qb 3 38<|qm 9<|qt 6 38 0<|qS 7 36<|qV 8 1<|qe) .ret) .skip) <| rt 20 (qb 3 38<|qc 722<|qm 1<|qb 5 36<|q1 (.inv [(155,731),(192,732)] (.l 1) [.l 2,.l 3])<|q2 19 (.mov (.l 4))<|qx 0<|qy 1<|qw 10<|qw 11<|qe) <| rs 28 (qb 3 38<|qm 10<|qd 725<|q2 27 (.mov (.l 2))<|qx 0<|qy 1<|qt 3 38 4<|qw 12<|qe) <| rs 33 (qb 3 38<|qm 11<|qm 12<|qC 562 (ls [0,1,2])<|qx 0<|qy 1<|qY 3 2<|qt 6 38 4<|qV 7 5<|qV 8 6<|qe) .ret
def F727 : F := mF 3 [.cell 6 (some 38),.t 7,.t 8] none c727
attribute [go_sem] c727 F727
def c728 : C := rs 0 (qB 2 0<|qG 4 z_28<|qe) <| sq (rs 8 (qm 1<|q1 (.asr 155 (some z_13) (.l 0))<|q2 7 (.mov (.l 1))<|qx 0<|qy 1<|qG 5 z_13<|qs 5 29 5 3<|qV 6 4<|qe) <| rs 12 (q3 (.mov (.g 6))<|qe) <| cd 12 (rs 13 (qR 5 0 29<|qf 2 8<|qs 2 29 2 1<|qe) <| rs 16 (qb 2 38<|qt 4 38 0<|qe) .ret) .skip) <| rs 17 (qm 1<|q1 (.asr 192 none (.l 0))<|q1 (.fld (.l 1) 0 (some 2))<|qf 2 6<|qs 2 2 3 2<|qe) <| rs 21 (qb 2 38<|qt 4 38 0<|qe) .ret
def F728 : F := mF 2 [.cell 4 (some 38)] none c728
attribute [go_sem] c728 F728
def c636 : C := rs 0 (qF 4<|qe) <| rs 5 (qm 0<|qc 141<|ya<|qm 1<|qh false<|qk .eql 3<|za 2<|ya<|qm 1<|qC 67 [.l 8,.f 642]<|qn<|za 7<|qv 4<|qe) .ret
def F636 : F := mF 2 [.t 4] none c636
attribute [go_sem] c636 F636
def c637 : C := rs 0 (qB 3 0<|qB 4 1<|qG 6 z_31<|qS 7 36<|qG 8 z_34<|qe) <| rs 10 (qR 3 4 12<|qr 3 16<|qb 4 9<|qm 2<|q1 (.build z_34 [(0,1,.c (.bool true)),(1,12,.l 1),(13,1,.l 3),(14,9,.l 4),(23,1,.l 5)])<|qG 9 z_34<|qs 9 24 7 6<|qe) <| rs 17 (q1 (.build z_24 [])<|qf 3 4<|qs 3 12 1 0<|qf 3 16<|q5 (.store (.v 3) 1 (.l 3) (cb false))<|qf 3 17<|qu 3 5 0<|qe) <| rt 21 (qb 3 18<|qb 9 24<|qt 6 18 0<|qS 7 36<|qt 8 24 1<|qe) .ret
def F637 : F := mF 3 [.cell 6 (some 18),.t 7,.cell 8 (some 24)] none c637
attribute [go_sem] c637 F637
def c638 : C := rs 0 (qB 1 0<|qS 2 36<|qe) <| rs 6 (qr 1 0<|q1 (.bin .add (ci 10) (.l 1))<|q1 (.build z_16 [(1,1,.l 2)])<|qG 3 z_16<|qs 3 36 4 3<|qe) <| rs 11 (qr 1 2<|qf 1 4<|qg 3<|ql 1<|qC 144 (ls [1,4])<|q2 10 (.mov (.l 5))<|qx 0<|qy 1<|qG 4 z_0<|qs 4 5 9 7<|qV 5 8<|qe) <| sq (bk 0 (rs 41 (qr 1 16<|qv 40<|qe) <| cd 40 (r2 43 (qf 1 4<|qg 1<|ql 1<|qR 1 4 12<|qf 3 0<|qu 3 5 5<|qf 3 7<|qs 3 1 7 2<|qf 3 13<|qs 3 12 9 4<|qe)) <| rs 52 (qm 5<|qn<|qv 51<|qe) <| cd 51 (r1 54 (qf 3 0<|qu 3 0 3<|qe)) <| r2 19 (qr 1 3<|qr 4 3<|qk .sub 1<|q1 (.iad 1 (.l 1) (.l 4))<|qj<|qr 4 3<|qr 4 2<|qr 4 4<|qR 1 4 12<|qf 3 0<|qu 3 15 1<|qf 3 2<|qs 3 1 17 6<|qf 3 7<|qs 3 1 19 8<|qf 3 3<|qs 3 1 21 10<|qf 3 4<|qs 3 1 23 12<|qf 3 13<|qs 3 12 25 14<|qe))) <| rs 55 (qb 3 36<|q1 (.mks 36 1 z_16 [(0,.l 0)])<|qv 2<|qe) .ret
def F638 : F := mF 1 [.t 2] none c638
attribute [go_sem] c638 F638
def c729 : C := rs 2 (qB 1 0<|q3 (.mov (.c (.niface)))<|q3 (.mov (.c (.slice 36 [])))<|qe) <| rs 7 (qR 1 0 29<|qc 335<|q2 6 (.mov (.l 2))<|qx 0<|qy 1<|qG 4 z_13<|qs 4 29 6 4<|qV 5 5<|qe) <| rs 12 (qb 4 29<|q1 (.build z_13 [(0,29,.l 0)])<|q1 (.mif 155 (.l 1))<|qm 5<|qw 2<|qw 3<|qe) .ret
def F729 : F := mF 1 [.t 2,.t 3] none c729
attribute [go_sem] c729 F729
def c730 : C := rs 2 (qB 1 0<|q3 (.mov (.c (.niface)))<|q3 (.mov (.c (.slice 36 [])))<|qe) <| rs 7 (qR 1 0 2<|qc 407<|q2 6 (.mov (.l 2))<|qx 0<|qy 1<|qG 4 z_20<|qs 4 2 6 4<|qV 5 5<|qe) <| rs 12 (qb 4 2<|q1 (.build z_20 [(0,2,.l 0)])<|q1 (.mif 192 (.l 1))<|qm 5<|qw 2<|qw 3<|qe) .ret
def F730 : F := mF 1 [.t 2,.t 3] none c730
attribute [go_sem] c730 F730
def c731 : C := rs 6 (qB 3 0<|qB 5 2<|q3 (.mov (.c (.niface)))<|q3 (.mov (.c (.slice 36 [])))<|qe) <| rs 11 (qR 3 0 29<|qb 5 36<|qd 340<|q2 10 (.mov (.l 3))<|qx 0<|qy 1<|qG 8 z_13<|qs 8 29 7 5<|qV 9 6<|qe) <| rs 17 (qb 8 29<|q1 (.build z_13 [(0,29,.l 0)])<|q1 (.mif 155 (.l 1))<|qm 9<|qw 6<|qw 7<|qe) .ret
def F731 : F := mF 3 [.t 6,.t 7] none c731
attribute [go_sem] c731 F731
def c732 : C := rs 6 (qB 3 0<|qB 5 2<|q3 (.mov (.c (.niface)))<|q3 (.mov (.c (.slice 36 [])))<|qe) <| rs 11 (qR 3 0 2<|qm 1<|qb 5 36<|qC 413 (ls [1,2,3])<|q2 10 (.mov (.l 4))<|qx 0<|qy 1<|qG 8 z_20<|qs 8 2 8 6<|qV 9 7<|qe) <| rs 18 (qb 8 2<|q1 (.build z_20 [(0,2,.l 0)])<|q1 (.mif 192 (.l 1))<|qm 9<|qw 6<|qw 7<|qe) .ret
def F732 : F := mF 3 [.t 6,.t 7] none c732
attribute [go_sem] c732 F732
def c642 : C := rs 0 (qF 2<|qe) <| rs 3 (qm 0<|qk .lss 1<|yo<|qm 0<|qk .gtr 3<|zo 2<|qv 2<|qe) .ret
def F642 : F := mF 1 [.t 2] none c642
attribute [go_sem] c642 F642
def c643 : C := rs 0 (qF 2<|qe) <| i1 7 (qm 0<|qh true<|qK .gtr 4096<|qe) 9 (rs 10 (q0 644<|qv 2<|qe) .ret) <| rs 12 (qm 0<|qc 645<|q2 11 (.mov (.l 1))<|qx 0<|qy 1<|qG 3 z_36<|qs 3 21 5 3<|qV 4 4<|qe) <| rs 17 (qm 0<|qc 646<|q2 16 (.mov (.l 1))<|qx 0<|qy 1<|qG 5 z_36<|qs 5 21 5 3<|qV 6 4<|qe) <| i1 21 (qm 6<|qN<|qe) 22 (rs 23 (qb 3 21<|q1 (.build z_36 [])<|qd 647<|ya<|qm 4<|qk .eql 3<|za 3<|ya<|q0 644<|za 7<|qv 2<|qe) .ret) <| rs 33 (qb 3 21<|qb 5 21<|qd 647<|ya<|qm 4<|qk .eql 0<|za 3<|ya<|q0 644<|za 7<|qv 2<|qe) .ret
def F643 : F := mF 1 [.t 2] none c643
attribute [go_sem] c643 F643
def c644 : C := rs 0 (qF 0<|qe) <| rs 1 (qC 648 [.c (.str [112,117,116,32,49,32,97,32,120,10,114,111,117,110,100,10,103,101,116,32,49])]<|q1 (.bin .eql (.l 0) (.c (.str [111,107,10,111,107,32,91,49,32,49,32,48,32,48,46,49,46,49,32,48,32,37,32,48,93,10,101,114,114,111,114,32,51,10])))<|qv 0<|qe) .ret
def F644 : F := mF 0 [.t 0] none c644
attribute [go_sem] c644 F644
def c645 : C := rs 0 (qG 2 z_36<|qz 3 0<|qe) <| rs 8 (qm 0<|qC 649 [.l 0,.c (.str [32])]<|q1 (.build z_37 [(0,1,.l 1)])<|q1 (.box (.l 2))<|qv 4<|qe) <| rs 12 (qm 4<|q1 (.rcall 650 [.l 0] 0 11 20000)<|qv 5<|qe) <| rs 15 (qm 4<|qm 5<|q1 (.rcall 651 [.l 0,.l 1] 0 11 20100)<|q2 14 (.mov (.l 2))<|qx 0<|qy 1<|qG 6 z_36<|qs 6 21 6 4<|qV 7 5<|qe) <| i1 20 (qm 7<|qN<|qe) 21 (r1 23 (qm 4<|qm 5<|q1 (.rcall 652 [.l 0,.l 1] 0 11 20200)<|q2 22 (.mov (.l 2))<|qx 0<|qy 1<|qt 6 21 4<|qw 7<|qe)) <| i1 28 (qm 7<|qN<|qe) 29 (r1 31 (qm 4<|qm 5<|q1 (.rcall 653 [.l 0,.l 1] 0 11 20300)<|q2 30 (.mov (.l 2))<|qx 0<|qy 1<|qt 6 21 4<|qw 7<|qe)) <| i1 36 (qm 7<|qn<|yo<|qm 4<|q1 (.nilc (.l 3))<|qg 1<|ql 11<|zo 2<|yo<|qm 4<|q1 (.nilc (.l 9))<|qg 0<|ql 11<|qh false<|qk .gtr 0<|zO 8<|qe) 51 (rs 52 (q1 (.build z_36 [])<|qt 2 21 0<|qz 3 3<|qe) .ret) <| rs 53 (qb 6 21<|qt 2 21 0<|qz 3 0<|qe) .ret
def F645 : F := mF 1 [.cell 2 (some 21),.t 3] none c645
attribute [go_sem] c645 F645
def b646_0 : C := lq 59 (qm 12<|qm 5<|qh false<|qQ .lss 0<|qe) 62 0 <| sq (bk 1 (rs 0 (qT 13<|qe) <| sq (rs 65 (qm 8<|qm 12<|qk .sub 1<|q3 (.idx (.l 0) (.l 2))<|qe) <| bk 2 (rs 70 (q1 (.bin .eql (.g 68) (.c (.int .u8 78)))<|qv 69<|qe) <| cd 69 (rs 71 (qm 12<|qm 5<|qm 12<|qi 1<|qj<|qc 657<|q1 (.iada 1 6 (.g 9) (.l 0))<|qs 9 1 6 5<|qe) <| i1 78 (qm 6<|q1 (.bin .eql (.l 0) (.c (.str [97,114,109])))<|ya<|qm 12<|qk .eql 2<|za 2<|ya<|qm 5<|qm 12<|qi 1<|qj<|q1 (.bin .eql (.l 10) (.c (.str [45,49])))<|zA 6<|qe) 90 (.exit 1) <| r1 91 (qm 12<|q1 (.iada 1 6 (.g 9) (.l 0))<|ql 9<|qk .geq 0<|qv 13<|qe)) <| rs 96 (q1 (.bin .eql (.g 68) (.c (.int .u8 84)))<|qv 95<|qe) <| cd 95 (r1 98 (qm 12<|qm 5<|qm 12<|qi 1<|qj<|qc 658<|q2 97 (.mov (.l 5))<|qx 0<|qy 1<|q1 (.iada 1 6 (.g 10) (.l 0))<|qs 10 1 9 7<|qV 13 8<|qe)) <| rs 108 (q1 (.bin .eql (.g 68) (.c (.int .u8 83)))<|qv 107<|qe) <| cd 107 (r1 110 (qm 5<|qm 12<|qi 1<|qj<|qc 659<|q2 109 (.mov (.l 4))<|qx 0<|qy 1<|qt 11 3 6<|qw 13<|qe)) .skip)) <| rs 117 (qm 13<|qN<|qe) <| cd 118 (rs 119 (qb 4 21<|qt 2 21 0<|qF 3<|qe) .ret) .skip)) <| r1 63 (qm 12<|qk .add 1<|qv 12<|qe)
def l646_0 : C := .loop [] [] [] [] b646_0
def c646 : C := rs 0 (qG 2 z_36<|qF 3<|qe) <| rs 16 (q1 (.build z_36 [])<|qG 4 z_36<|qs 4 21 1 0<|qe) <| rs 17 (qm 0<|qC 654 [.l 0,.c (.int .u8 32)]<|qv 5<|qe) <| rs 19 (qm 5<|q1 (.iad 1 (.l 0) (ci 0))<|qj<|qv 6<|qe) <| i1 22 (qm 6<|q1 (.bin .eql (.l 0) (.c (.str [114,111,117,110,100])))<|yo<|qm 6<|q1 (.bin .eql (.l 3) (.c (.str [97,98,111,114,116])))<|zO 2<|qe) 27 (rs 28 (q1 (.build z_36 [(0,1,.c (.int .i64 13))])<|qG 7 z_36<|qs 7 21 1 0<|qe) <| i1 29 (qm 6<|q3 (.bin .eql (.l 0) (.c (.str [97,98,111,114,116])))<|qe) 30 (r1 31 (qf 7 0<|qu 7 0 12<|qf 7 15<|qg 0<|qu 7 3 6<|qe)) <| i1 34 (qm 5<|qh false<|qK .neq 1<|qe) 36 (rs 37 (qb 4 21<|qt 2 21 0<|qF 3<|qe) .ret) <| rs 38 (qb 7 21<|qt 2 21 0<|qT 3<|qe) .ret) <| i1 39 (qm 6<|q3 (.bin .eql (.l 0) (.c (.str [118,105,101,119])))<|qe) 40 (rs 41 (qm 5<|qc 655<|qx 0<|qy 1<|qt 2 21 2<|qw 3<|qe) .ret) <| rs 45 (qm 6<|qc 656<|qv 8<|qe) <| i1 47 (qm 8<|qh true<|qk .eql 0<|yo<|qm 5<|qh false<|qm 8<|qh true<|qk .add 1<|qq .neq 5<|zO 3<|qe) 57 (rs 58 (qb 4 21<|qt 2 21 0<|qF 3<|qe) .ret) <| rs 0 (qG 9 z_38<|qe) <| rs 0 (qG 10 z_39<|qe) <| rs 0 (qG 11 z_3<|qe) <| sq (rs 0 (qz 12 1<|qe) <| bk 0 l646_0) <| rs 120 (q1 (.iada 1 6 (.g 9) (ci 1))<|ql 9<|q1 (.build z_36 [(0,1,.c (.int .i64 1)),(1,1,.l 1)])<|qG 14 z_36<|qs 14 21 3 2<|qe) <| rs 123 (q1 (.iada 1 6 (.g 10) (ci 2))<|ql 10<|q1 (.build z_24 [(3,1,.l 1)])<|qG 15 z_24<|qs 15 12 3 2<|qe) <| sq (rs 126 (q3 (.mov (.g 6))<|qe) <| bk 3 (rs 133 (q1 (.bin .eql (.g 126) (.c (.str [112,117,116])))<|qv 132<|qe) <| cd 132 (r2 134 (q1 (.iada 1 6 (.g 10) (ci 3))<|ql 10<|qf 15 2<|qu 15 2 1<|qf 15 4<|qs 15 1 4 1<|qe)) <| rs 139 (q1 (.bin .eql (.g 126) (.c (.str [110,101,119])))<|qv 138<|qe) <| cd 138 (r2 140 (q1 (.iada 1 6 (.g 10) (ci 3))<|ql 10<|qf 15 2<|qu 15 2 3<|qf 15 4<|qs 15 1 4 1<|qe)) <| rs 145 (q1 (.bin .eql (.g 126) (.c (.str [100,101,108])))<|qv 144<|qe) <| cd 144 (r1 146 (qf 15 2<|qu 15 0 2<|qe)) <| rs 148 (q1 (.bin .eql (.g 126) (.c (.str [103,101,116])))<|qv 147<|qe) <| cd 147 (r1 149 (qf 15 2<|qu 15 0 4<|qe)) <| rs 151 (q1 (.bin .eql (.g 126) (.c (.str [99,97,115])))<|qv 150<|qe) <| cd 150 (r2 152 (q1 (.iada 1 6 (.g 10) (ci 3))<|ql 10<|q1 (.iada 1 6 (.g 10) (ci 4))<|ql 10<|qf 15 2<|qu 15 4 3<|qf 15 5<|q5 (.store (.v 15) 1 (.l 6) (cb true))<|qf 15 6<|qs 15 1 8 1<|qf 15 4<|qs 15 1 10 3<|qe)) <| rs 161 (q1 (.bin .eql (.g 126) (.c (.str [97,116])))<|qv 160<|qe) <| cd 160 (r2 162 (qb 11 3<|qf 15 2<|qu 15 1 5<|qf 15 7<|qs 15 3 3 0<|qe)) <| rs 166 (q1 (.bin .eql (.g 126) (.c (.str [112,97,103,101])))<|qv 165<|qe) <| cd 165 (r2 167 (q1 (.iada 1 6 (.g 10) (ci 3))<|ql 10<|qb 11 3<|q1 (.iada 1 6 (.g 9) (ci 5))<|ql 9<|qf 15 2<|qu 15 5 6<|qf 15 10<|qs 15 1 7 1<|qf 15 7<|qs 15 3 9 2<|qf 15 11<|qs 15 1 11 4<|qe)) <| rs 177 (q1 (.bin .eql (.g 126) (.c (.str [111,112,101,110])))<|qv 176<|qe) <| cd 176 (r2 178 (q1 (.iada 1 6 (.g 10) (ci 3))<|ql 10<|qf 14 0<|qu 14 2 2<|qf 15 10<|qs 15 1 4 1<|qe)) <| rs 183 (q1 (.bin .eql (.g 126) (.c (.str [99,108,111,115,101])))<|qv 182<|qe) <| cd 182 (r2 184 (q1 (.iada 1 6 (.g 9) (ci 2))<|ql 9<|qf 14 0<|qu 14 2 3<|qf 14 2<|qs 14 1 4 1<|qe)) <| rs 127 (qm 6<|qb 9 6<|q1 (.iada 1 6 (.g 10) (ci 2))<|ql 10<|qC 660 (ls [0,1,3])<|qt 2 21 4<|qT 3<|qe) .ret)) <| rs 188 (qb 15 12<|qf 14 3<|qs 14 12 1 0<|qe) <| rs 190 (qb 14 21<|qt 2 21 0<|qT 3<|qe) .ret
def F646 : F := mF 1 [.cell 2 (some 21),.t 3] none c646
attribute [go_sem] b646_0 c646 F646
def b647_0 : C := rs 49 (q3 (.bin .lss (.g 48) (.g 47))<|qe) <| sq (cd 49 .skip <| .exit 0) <| sq (bk 1 (rs 50 (qm 48<|qv 6<|qe) <| rt 51 (qr 5 5<|qm 6<|qi 1<|qj<|qf 3 15<|qg 5<|ql 3<|qm 6<|qi 1<|qj<|qQ .neq 4<|qe) <| cd 62 (rs 0 (qF 4<|qe) .ret) .skip)) <| r1 63 (q1 (.bin .add (.g 48) (ci 1))<|qv 48<|qe)
def l647_0 : C := .loop [] [] [] [] b647_0
def c647 : C := rs 0 (qB 2 0<|qB 3 1<|qF 4<|qe) <| rs 7 (qR 2 15 6<|qG 5 z_40<|qs 5 6 2 1<|qe) <| i1 9 (qr 2 0<|qr 3 0<|qq .neq 1<|yo<|qr 2 1<|qr 3 1<|qq .neq 7<|zo 5<|yo<|qr 2 2<|qr 3 2<|qq .neq 14<|zo 12<|yo<|qR 2 3 12<|qR 3 3 12<|q1 (.eqa true [.i,.i,.i,.s,.s,.b,.s,.i,.i,.i,.s,.i] (.l 21) (.l 23))<|zo 19<|yo<|qr 5 5<|qh false<|qf 3 15<|qg 5<|ql 3<|qh false<|qq .neq 29<|zO 26<|qe) 44 (rs 0 (qF 4<|qe) .ret) <| sq (rs 45 (qr 5 5<|qH false<|q3 (.mov (ci 0))<|qe) <| bk 0 l647_0) <| rs 64 (qr 5 0<|qf 3 15<|qg 0<|ql 3<|qq .eql 1<|ya<|qr 5 1<|qf 3 15<|qg 1<|ql 3<|qq .eql 8<|za 6<|ya<|qr 5 2<|qf 3 15<|qg 2<|ql 3<|qq .eql 16<|za 14<|ya<|qr 5 3<|qf 3 15<|qg 3<|ql 3<|qq .eql 24<|za 22<|ya<|qr 5 4<|qf 3 15<|qg 4<|ql 3<|qq .eql 32<|za 30<|qv 4<|qe) .ret
def F647 : F := mF 2 [.t 4] none c647
attribute [go_sem] b647_0 c647 F647
def c650 : C := rs 0 (qE 2<|qe) <| i1 4 (qm 0<|q1 (.nilc (.l 0))<|qg 0<|ql 0<|qh false<|qK .eql 0<|qe) 9 (rs 10 (qm 0<|q1 (.nilc (.l 0))<|qg 1<|q5 (.store (.v 0) 1 (.l 2) (cb true))<|qe) <| rs 0 (qE 2<|qe) .ret) <| rs 13 (qm 0<|q1 (.nilc (.l 0))<|qg 0<|ql 0<|q1 (.iad 1 (.l 3) (ci 0))<|qj<|qv 3<|qe) <| rs 19 (qm 0<|qm 0<|q1 (.nilc (.l 1))<|qg 0<|ql 0<|q1 (.sl false 1 (.l 4) (some (ci 1)) none)<|q1 (.nilc (.l 0))<|qg 0<|qs 0 1 7 5<|qe) <| rs 27 (qm 3<|qv 2<|qe) .ret
def F650 : F := mF 1 [.t 2] none c650
attribute [go_sem] c650 F650
def c651 : C := rs 0 (qG 4 z_36<|qF 5<|qe) <| rs 8 (q1 (.build z_36 [(0,1,.c (.int .i64 1))])<|qG 6 z_36<|qs 6 21 1 0<|qe) <| rs 0 (qG 7 z_24<|qe) <| sq (rs 9 (q3 (.mov (.g 1))<|qe) <| bk 0 (sq (rs 12 (q1 (.bin .eql (.g 9) (.c (.str [112,117,116])))<|qv 11<|qe) <| cd 11 .skip <| r1 13 (q1 (.bin .eql (.g 9) (.c (.str [110,101,119])))<|qv 11<|qe)) <| cd 11 (rs 14 (qf 7 2<|qu 7 0 1<|qe) <| i1 15 (qm 1<|q3 (.bin .eql (.l 0) (.c (.str [110,101,119])))<|qe) 16 (r1 17 (qf 7 2<|qu 7 0 3<|qe)) <| r1 18 (qm 0<|q1 (.rcall 665 [.l 0] 0 0 20000)<|qm 0<|q1 (.rcall 666 [.l 2] 0 0 20100)<|qm 0<|q1 (.rcall 666 [.l 4] 0 0 20200)<|qf 6 1<|qs 6 1 6 1<|qf 7 3<|qs 7 1 8 3<|qf 7 4<|qs 7 1 10 5<|qe)) <| sq (rs 28 (q1 (.bin .eql (.g 9) (.c (.str [100,101,108])))<|qv 27<|qe) <| cd 27 .skip <| r1 29 (q1 (.bin .eql (.g 9) (.c (.str [103,101,116])))<|qv 27<|qe)) <| cd 27 (rs 30 (qf 7 2<|qu 7 0 2<|qe) <| i1 31 (qm 1<|q3 (.bin .eql (.l 0) (.c (.str [103,101,116])))<|qe) 32 (r1 33 (qf 7 2<|qu 7 0 4<|qe)) <| r1 34 (qm 0<|q1 (.rcall 665 [.l 0] 0 0 20300)<|qm 0<|q1 (.rcall 666 [.l 2] 0 0 20400)<|qf 6 1<|qs 6 1 4 1<|qf 7 3<|qs 7 1 6 3<|qe)) <| rs 41 (q1 (.bin .eql (.g 9) (.c (.str [99,97,115])))<|qv 40<|qe) <| cd 40 (rs 42 (qf 7 2<|qu 7 0 3<|qf 7 5<|q5 (.store (.v 7) 1 (.l 2) (cb true))<|qe) <| r1 44 (qm 0<|q1 (.rcall 665 [.l 0] 0 0 20500)<|qm 0<|q1 (.rcall 666 [.l 2] 0 0 20600)<|qm 0<|q1 (.rcall 666 [.l 4] 0 0 20700)<|qm 0<|q1 (.rcall 666 [.l 6] 0 0 20800)<|qf 6 1<|qs 6 1 8 1<|qf 7 3<|qs 7 1 10 3<|qf 7 6<|qs 7 1 12 5<|qf 7 4<|qs 7 1 14 7<|qe)) <| rs 57 (q1 (.bin .eql (.g 9) (.c (.str [97,116])))<|qv 56<|qe) <| cd 56 (rs 58 (qf 7 2<|qu 7 0 5<|qe) <| r1 59 (qm 0<|q1 (.rcall 665 [.l 0] 0 0 20900)<|qm 0<|q1 (.rcall 666 [.l 2] 0 0 21000)<|qm 0<|q1 (.rcall 667 [.l 4] 0 0 21100)<|qf 6 1<|qs 6 1 6 1<|qf 7 3<|qs 7 1 8 3<|qf 7 7<|qs 7 3 10 5<|qe)) <| rs 69 (q1 (.bin .eql (.g 9) (.c (.str [112,97,103,101])))<|qv 68<|qe) <| cd 68 (rs 70 (qf 7 2<|qu 7 0 6<|qe) <| r1 71 (qm 0<|q1 (.rcall 665 [.l 0] 0 0 21200)<|qm 0<|q1 (.rcall 666 [.l 2] 0 0 21300)<|qm 0<|q1 (.rcall 666 [.l 4] 0 0 21400)<|qm 0<|q1 (.rcall 667 [.l 6] 0 0 21500)<|qm 0<|q1 (.rcall 665 [.l 8] 0 0 21600)<|qf 6 1<|qs 6 1 10 1<|qf 7 3<|qs 7 1 12 3<|qf 7 10<|qs 7 1 14 5<|qf 7 7<|qs 7 3 16 7<|qf 7 11<|qs 7 1 18 9<|qe)) <| rs 87 (q1 (.bin .eql (.g 9) (.c (.str [111,112,101,110])))<|qv 86<|qe) <| cd 86 (rs 88 (qf 6 0<|qu 6 0 2<|qe) <| r1 89 (qm 0<|q1 (.rcall 665 [.l 0] 0 0 21700)<|qm 0<|q1 (.rcall 666 [.l 2] 0 0 21800)<|qm 0<|q1 (.rcall 666 [.l 4] 0 0 21900)<|qf 6 1<|qs 6 1 6 1<|qf 7 3<|qs 7 1 8 3<|qf 7 10<|qs 7 1 10 5<|qe)) <| rs 99 (q1 (.bin .eql (.g 9) (.c (.str [99,108,111,115,101])))<|qv 98<|qe) <| cd 98 (r1 100 (qm 0<|q1 (.rcall 665 [.l 0] 0 0 22000)<|qm 0<|q1 (.rcall 665 [.l 2] 0 0 22100)<|qf 6 0<|qu 6 4 3<|qf 6 1<|qs 6 1 6 1<|qf 6 2<|qs 6 1 8 3<|qe)) <| rs 10 (qb 6 21<|qt 4 21 0<|qF 5<|qe) .ret)) <| rs 107 (qb 7 12<|qf 6 3<|qs 6 12 1 0<|qe) <| rs 109 (qb 6 21<|qt 4 21 0<|qT 5<|qe) .ret
def F651 : F := mF 2 [.cell 4 (some 21),.t 5] none c651
attribute [go_sem] c651 F651
def b652_0 : C := lq 67 (qm 0<|q1 (.nilc (.l 0))<|qg 0<|ql 0<|qh false<|qK .gtr 0<|qe) 72 1 <| bk 2 (r2 73 (qr 7 5<|qm 0<|q1 (.rcall 665 [.l 2] 0 0 20700)<|q1 (.mks 1 1 [.int .i64 0] [(0,.l 3)])<|q1 (.app 78 1 (.l 1) (.l 4))<|qf 7 5<|qs 7 1 6 5<|qe))
def l652_0 : C := .loop [] [] [] [] b652_0
def c652 : C := rs 0 (qG 4 z_36<|qF 5<|qe) <| rs 8 (q1 (.build z_36 [(0,1,.c (.int .i64 12))])<|qG 6 z_36<|qs 6 21 1 0<|qe) <| rs 0 (qG 7 z_41<|qe) <| sq (rs 9 (q3 (.mov (.g 1))<|qe) <| bk 0 (rs 12 (q1 (.bin .eql (.g 9) (.c (.str [109,111,118,101])))<|qv 11<|qe) <| cd 11 (r1 13 (qm 0<|q1 (.rcall 665 [.l 0] 0 0 20000)<|qm 0<|q1 (.rcall 665 [.l 2] 0 0 20100)<|qf 7 0<|qu 7 4 1<|qf 7 1<|qs 7 1 6 1<|qf 7 3<|qs 7 1 8 3<|qe)) <| rs 21 (q1 (.bin .eql (.g 9) (.c (.str [115,112,108,105,116])))<|qv 20<|qe) <| cd 20 (r1 22 (qm 0<|q1 (.rcall 665 [.l 0] 0 0 20200)<|qm 0<|q1 (.rcall 666 [.l 2] 0 0 20300)<|qf 7 0<|qu 7 4 2<|qf 7 1<|qs 7 1 6 1<|qf 7 4<|qs 7 1 8 3<|qe)) <| rs 30 (q1 (.bin .eql (.g 9) (.c (.str [109,101,114,103,101])))<|qv 29<|qe) <| cd 29 (r1 31 (qm 0<|q1 (.rcall 665 [.l 0] 0 0 20400)<|qm 0<|q1 (.rcall 665 [.l 2] 0 0 20500)<|qf 7 0<|qu 7 4 3<|qf 7 1<|qs 7 1 6 1<|qf 7 2<|qs 7 1 8 3<|qe)) <| rs 39 (q1 (.bin .eql (.g 9) (.c (.str [118,105,101,119])))<|qv 38<|qe) <| cd 38 (rs 40 (qm 0<|q1 (.rcall 665 [.l 0] 0 0 20600)<|qf 7 0<|qu 7 2 5<|qf 7 3<|qs 7 1 4 1<|qe) <| rs 44 (qm 0<|qm 0<|q1 (.nilc (.l 1))<|qg 1<|ql 0<|yo<|qm 0<|q1 (.nilc (.l 6))<|qg 0<|ql 0<|qh false<|qk .lss 1<|zo 5<|yo<|qm 0<|q1 (.nilc (.l 14))<|qg 0<|ql 0<|qh false<|qk .gtr 3<|zo 13<|q1 (.nilc (.l 0))<|qg 1<|qs 0 1 22 20<|qe) <| bk 1 l652_0) <| rs 81 (q1 (.bin .eql (.g 9) (.c (.str [97,98,111,114,116])))<|qv 80<|qe) <| cd 80 (r1 82 (qf 7 0<|qu 7 0 6<|qe)) <| rs 10 (qb 6 21<|qt 4 21 0<|qF 5<|qe) .ret)) <| rs 83 (qb 7 6<|qf 6 15<|qs 6 6 1 0<|qe) <| rs 85 (qb 6 21<|qt 4 21 0<|qT 5<|qe) .ret
def F652 : F := mF 2 [.cell 4 (some 21),.t 5] none c652
attribute [go_sem] b652_0 c652 F652
def c653 : C := rs 0 (qG 4 z_36<|qF 5<|qe) <| sq (rs 7 (q3 (.mov (.g 1))<|qe) <| bk 0 (rs 9 (q1 (.bin .eql (.g 7) (.c (.str [116,105,99,107])))<|qv 8<|qe) <| cd 8 (rs 10 (qm 0<|q1 (.rcall 665 [.l 0] 0 0 20000)<|q1 (.build z_36 [(0,1,.c (.int .i64 4)),(1,1,.l 1)])<|qt 4 21 2<|qT 5<|qe) .ret) <| rs 14 (q1 (.bin .eql (.g 7) (.c (.str [98,101,97,116])))<|qv 13<|qe) <| cd 13 (rs 15 (qm 0<|q1 (.rcall 665 [.l 0] 0 0 20100)<|q1 (.build z_36 [(0,1,.c (.int .i64 5)),(1,1,.l 1)])<|qt 4 21 2<|qT 5<|qe) .ret) <| rs 19 (q1 (.bin .eql (.g 7) (.c (.str [99,111,109,101])))<|qv 18<|qe) <| cd 18 (rs 20 (qm 0<|q1 (.rcall 665 [.l 0] 0 0 20200)<|q1 (.build z_36 [(0,1,.c (.int .i64 6)),(2,1,.l 1)])<|qt 4 21 2<|qT 5<|qe) .ret) <| rs 24 (q1 (.bin .eql (.g 7) (.c (.str [108,111,115,101])))<|qv 23<|qe) <| cd 23 (rs 25 (qm 0<|q1 (.rcall 665 [.l 0] 0 0 20300)<|q1 (.build z_36 [(0,1,.c (.int .i64 7)),(2,1,.l 1)])<|qt 4 21 2<|qT 5<|qe) .ret) <| rs 29 (q1 (.bin .eql (.g 7) (.c (.str [116,119,105,99,101])))<|qv 28<|qe) <| cd 28 (rs 30 (qm 0<|q1 (.rcall 665 [.l 0] 0 0 20400)<|q1 (.build z_36 [(0,1,.c (.int .i64 8)),(2,1,.l 1)])<|qt 4 21 2<|qT 5<|qe) .ret) <| rs 34 (q1 (.bin .eql (.g 7) (.c (.str [119,97,108,108])))<|qv 33<|qe) <| cd 33 (rs 35 (qm 0<|q1 (.rcall 665 [.l 0] 0 0 20500)<|qm 0<|q1 (.rcall 665 [.l 2] 0 0 20600)<|q1 (.build z_36 [(0,1,.c (.int .i64 9)),(1,1,.l 1),(2,1,.l 3)])<|qt 4 21 4<|qT 5<|qe) .ret) <| rs 41 (q1 (.bin .eql (.g 7) (.c (.str [97,114,109])))<|qv 40<|qe) <| cd 40 (rs 42 (qm 0<|q1 (.rcall 665 [.l 0] 0 0 20700)<|q1 (.build z_36 [(0,1,.c (.int .i64 10)),(1,1,.l 1),(2,1,.c (.int .i64 (-1)))])<|qG 6 z_36<|qs 6 21 3 2<|qe) <| i1 45 (qm 0<|q1 (.nilc (.l 0))<|qg 0<|ql 0<|qh false<|qk .eql 1<|ya<|qm 0<|q1 (.nilc (.l 7))<|qg 0<|ql 0<|q1 (.iad 1 (.l 10) (ci 0))<|qj<|q1 (.bin .eql (.l 12) (.c (.str [45,49])))<|zA 6<|qe) 59 (rs 60 (qm 0<|q1 (.rcall 650 [.l 0] 0 0 20800)<|qe) <| rs 62 (qb 6 21<|qt 4 21 0<|qT 5<|qe) .ret) <| rs 63 (qm 0<|q1 (.rcall 665 [.l 0] 0 0 20900)<|qf 6 2<|qs 6 1 2 1<|qe) <| rs 66 (qb 6 21<|qt 4 21 0<|qT 5<|qe) .ret) <| rs 68 (q1 (.bin .eql (.g 7) (.c (.str [99,114,97,115,104])))<|qv 67<|qe) <| cd 67 (rs 69 (qm 0<|q1 (.rcall 665 [.l 0] 0 0 21000)<|qm 0<|q1 (.rcall 665 [.l 2] 0 0 21100)<|q1 (.build z_36 [(0,1,.c (.int .i64 11)),(1,1,.l 1),(2,1,.l 3)])<|qt 4 21 4<|qT 5<|qe) .ret) <| rs 75 (q1 (.bin .eql (.g 7) (.c (.str [114,111,117,110,100])))<|qv 74<|qe) <| cd 74 (rs 76 (q1 (.build z_36 [(0,1,.c (.int .i64 13))])<|qt 4 21 0<|qT 5<|qe) .ret) .skip)) <| rs 77 (q1 (.build z_36 [])<|qt 4 21 0<|qF 5<|qe) .ret
def F653 : F := mF 2 [.cell 4 (some 21),.t 5] none c653
attribute [go_sem] c653 F653
def b654_0 : C := lq 8 (qm 7<|qm 0<|qh true<|qQ .leq 0<|qe) 11 0 <| sq (bk 1 (rs 14 (qm 7<|qm 0<|qh true<|qq .eql 0<|yo<|qm 0<|qm 7<|q1 (.idx (.l 5) (.l 6))<|qm 1<|qq .eql 7<|zO 4<|qe) <| cd 24 (rs 25 (qm 5<|qm 0<|qm 6<|qm 7<|q1 (.sl true 0 (.l 1) (some (.l 2)) (some (.l 3)))<|q1 (.mks 1 1 [.str []] [(0,.l 4)])<|q1 (.app 5 1 (.l 0) (.l 5))<|qv 5<|qe) <| r1 32 (qm 7<|qk .add 1<|qv 6<|qe)) .skip)) <| r1 12 (qm 7<|qk .add 1<|qv 7<|qe)
def l654_0 : C := .loop [] [] [] [] b654_0
def c654 : C := rs 0 (qS 4 1<|qe) <| rs 5 (q3 (.mko 1)<|qe) <| rs 0 (qz 6 0<|qe) <| sq (rs 0 (qz 7 0<|qe) <| bk 0 l654_0) <| rs 34 (qm 5<|qv 4<|qe) .ret
def F654 : F := mF 2 [.t 4] none c654
attribute [go_sem] b654_0 c654 F654
def b655_0 : C := lq 19 (qm 5<|qm 0<|qh false<|qQ .lss 0<|qe) 22 0 <| sq (bk 1 (rs 25 (qm 0<|qm 5<|qi 1<|qj<|q1 (.call (.k 657) .borrow none [.l 3])<|qv 6<|qe) <| i1 30 (qm 6<|qK .lss 0<|qe) 31 (rs 32 (q1 (.build z_36 [])<|qt 2 21 0<|qF 3<|qe) .ret) <| rs 33 (qm 5<|qK .eql 1<|qe) <| cd 34 (r1 35 (qm 6<|qf 4 15<|qg 3<|qs 4 1 2 0<|qe)) <| r1 38 (qf 4 15<|qg 5<|ql 4<|qm 6<|q1 (.mks 1 1 [.int .i64 0] [(0,.l 3)])<|q1 (.app 43 1 (.l 2) (.l 4))<|qf 4 15<|qg 5<|qs 4 1 7 5<|qe))) <| r1 23 (qm 5<|qk .add 1<|qv 5<|qe)
def l655_0 : C := .loop [] [] [] [] b655_0
def c655 : C := rs 0 (qG 2 z_36<|qF 3<|qe) <| rs 7 (q1 (.build [.int .i64 0,.int .i64 0,.int .i64 0,.int .i64 0,.int .i64 0,.int .i64 0,.str [],.str [],.bool false,.str [],.int .i64 0,.int .i64 0,.int .i64 0,.str [],.int .i64 0,.int .i64 0,.int .i64 0,.int .i64 0,.int .i64 0,.str [],.nslice 1] [(0,1,.c (.int .i64 12))])<|qG 4 z_42<|qs 4 21 1 0<|qe) <| rs 8 (qf 4 15<|qg 0<|qu 4 1 5<|qe) <| i1 10 (qm 0<|qh false<|qk .lss 3<|yo<|qm 0<|qh false<|qk .gtr 5<|zO 3<|qe) 17 (rs 18 (q1 (.build z_36 [])<|qt 2 21 0<|qF 3<|qe) .ret) <| sq (rs 0 (qz 5 1<|qe) <| bk 0 l655_0) <| rs 46 (qb 4 21<|qt 2 21 0<|qT 3<|qe) .ret
def F655 : F := mF 1 [.cell 2 (some 21),.t 3] none c655
attribute [go_sem] b655_0 c655 F655
def c656 : C := rs 0 (qE 2<|qe) <| sq (rs 3 (q3 (.mov (.g 0))<|qe) <| bk 0 (sq (rs 5 (q1 (.bin .eql (.g 3) (.c (.str [112,117,116])))<|qv 4<|qe) <| cd 4 .skip <| r1 6 (q1 (.bin .eql (.g 3) (.c (.str [110,101,119])))<|qv 4<|qe)) <| cd 4 (rs 2 (q3 (.mov (.c (.str [78,84,84])))<|qe) .ret) <| sq (rs 8 (q1 (.bin .eql (.g 3) (.c (.str [100,101,108])))<|qv 7<|qe) <| cd 7 .skip <| r1 9 (q1 (.bin .eql (.g 3) (.c (.str [103,101,116])))<|qv 7<|qe)) <| cd 7 (rs 2 (q3 (.mov (.c (.str [78,84])))<|qe) .ret) <| rs 11 (q1 (.bin .eql (.g 3) (.c (.str [99,97,115])))<|qv 10<|qe) <| cd 10 (rs 2 (q3 (.mov (.c (.str [78,84,84,84])))<|qe) .ret) <| rs 13 (q1 (.bin .eql (.g 3) (.c (.str [97,116])))<|qv 12<|qe) <| cd 12 (rs 2 (q3 (.mov (.c (.str [78,84,83])))<|qe) .ret) <| rs 15 (q1 (.bin .eql (.g 3) (.c (.str [112,97,103,101])))<|qv 14<|qe) <| cd 14 (rs 2 (q3 (.mov (.c (.str [78,84,84,83,78])))<|qe) .ret) <| rs 17 (q1 (.bin .eql (.g 3) (.c (.str [111,112,101,110])))<|qv 16<|qe) <| cd 16 (rs 2 (q3 (.mov (.c (.str [78,84,84])))<|qe) .ret) <| sq (rs 19 (q1 (.bin .eql (.g 3) (.c (.str [99,108,111,115,101])))<|qv 18<|qe) <| cd 18 .skip <| rs 20 (q1 (.bin .eql (.g 3) (.c (.str [119,97,108,108])))<|qv 18<|qe) <| cd 18 .skip <| rs 21 (q1 (.bin .eql (.g 3) (.c (.str [97,114,109])))<|qv 18<|qe) <| cd 18 .skip <| rs 22 (q1 (.bin .eql (.g 3) (.c (.str [99,114,97,115,104])))<|qv 18<|qe) <| cd 18 .skip <| rs 23 (q1 (.bin .eql (.g 3) (.c (.str [109,111,118,101])))<|qv 18<|qe) <| cd 18 .skip <| r1 24 (q1 (.bin .eql (.g 3) (.c (.str [109,101,114,103,101])))<|qv 18<|qe)) <| cd 18 (rs 2 (q3 (.mov (.c (.str [78,78])))<|qe) .ret) <| sq (rs 26 (q1 (.bin .eql (.g 3) (.c (.str [116,105,99,107])))<|qv 25<|qe) <| cd 25 .skip <| rs 27 (q1 (.bin .eql (.g 3) (.c (.str [98,101,97,116])))<|qv 25<|qe) <| cd 25 .skip <| rs 28 (q1 (.bin .eql (.g 3) (.c (.str [99,111,109,101])))<|qv 25<|qe) <| cd 25 .skip <| rs 29 (q1 (.bin .eql (.g 3) (.c (.str [108,111,115,101])))<|qv 25<|qe) <| cd 25 .skip <| r1 30 (q1 (.bin .eql (.g 3) (.c (.str [116,119,105,99,101])))<|qv 25<|qe)) <| cd 25 (rs 2 (q3 (.mov (.c (.str [78])))<|qe) .ret) <| rs 32 (q1 (.bin .eql (.g 3) (.c (.str [115,112,108,105,116])))<|qv 31<|qe) <| cd 31 (rs 2 (q3 (.mov (.c (.str [78,84])))<|qe) .ret) .skip)) <| rs 0 (qE 2<|qe) .ret
def F656 : F := mF 1 [.t 2] none c656
attribute [go_sem] c656 F656
def b657_0 : C := lq 23 (qm 4<|qm 0<|qh true<|qQ .lss 0<|qe) 26 0 <| sq (bk 1 (i1 29 (qm 0<|qm 4<|q1 (.idx (.l 0) (.l 1))<|q1 (.bin .lss (.l 2) (.c (.int .u8 48)))<|yo<|qm 0<|qm 4<|q1 (.idx (.l 5) (.l 6))<|q1 (.bin .gtr (.l 7) (.c (.int .u8 57)))<|zO 4<|qe) 38 (rs 0 (qz 2 (-1)<|qe) .ret) <| r1 39 (qm 3<|q1 (.bin .mul (ci 10) (.l 0))<|qm 0<|qm 4<|q1 (.idx (.l 2) (.l 3))<|q1 (.conv (.int .i64) (.l 4))<|qq .add 1<|qk .sub 48<|qv 3<|qe))) <| r1 27 (qm 4<|qk .add 1<|qv 4<|qe)
def l657_0 : C := .loop [] [] [] [] b657_0
def c657 : C := rs 0 (qz 2 0<|qe) <| i1 5 (qm 0<|qh true<|qk .eql 0<|yo<|qm 0<|qh true<|qk .gtr 13<|zo 3<|yo<|qm 0<|qh true<|qk .gtr 1<|ya<|qm 0<|q1 (.idx (.l 13) (ci 0))<|q1 (.bin .eql (.l 14) (.c (.int .u8 48)))<|y0 8<|qa 12<|zO 8<|qe) 22 (rs 0 (qz 2 (-1)<|qe) .ret) <| rs 0 (qz 3 0<|qe) <| sq (rs 0 (qz 4 0<|qe) <| bk 0 l657_0) <| rs 47 (qm 3<|qv 2<|qe) .ret
def F657 : F := mF 1 [.t 2] none c657
attribute [go_sem] b657_0 c657 F657
def b658_0 : C := lq 8 (qm 5<|qm 0<|qh true<|qQ .lss 0<|qe) 11 0 <| bk 1 (i1 12 (qm 0<|qm 5<|q1 (.idx (.l 0) (.l 1))<|q3 (.bin .neq (.l 2) (.c (.int .u8 37)))<|qe) 15 (rs 16 (qm 4<|qm 0<|qm 5<|qm 5<|qk .add 1<|q1 (.sl true 0 (.l 1) (some (.l 2)) (some (.l 4)))<|qq .add 0<|qv 4<|qe) <| rs 23 (qm 5<|qk .add 1<|qv 5<|qe) <| .exit 1) <| i1 25 (qm 0<|qh true<|qm 5<|qq .sub 1<|qk .lss 3<|yo<|qm 0<|qm 5<|qk .add 1<|q1 (.idx (.l 6) (.l 8))<|qc 668<|qk .eql 99<|zo 5<|yo<|qm 0<|qm 5<|qk .add 2<|q1 (.idx (.l 14) (.l 16))<|qc 668<|qk .eql 99<|zO 13<|qe) 45 (rs 0 (qE 2<|qF 3<|qe) .ret) <| rt 46 (qm 4<|qm 0<|qm 5<|qk .add 1<|q1 (.idx (.l 1) (.l 3))<|qc 668<|q1 (.bin .mul (ci 16) (.l 5))<|qm 0<|qm 5<|qk .add 2<|q1 (.idx (.l 7) (.l 9))<|qc 668<|qq .add 6<|q1 (.conv (.int .u8) (.l 12))<|q1 (.mks 1 1 [.int .u8 0] [(0,.l 13)])<|q1 (.b2s (.l 14))<|qq .add 0<|qv 4<|qe) <| r1 63 (qm 5<|qk .add 3<|qv 5<|qe))
def l658_0 : C := .loop [] [] [] [] b658_0
def c658 : C := rs 0 (qE 2<|qF 3<|qe) <| i1 6 (qm 0<|q3 (.bin .eql (.l 0) (.c (.str [37])))<|qe) 7 (rs 0 (qE 2<|qT 3<|qe) .ret) <| rs 0 (qE 4<|qe) <| sq (rs 0 (qz 5 0<|qe) <| bk 0 l658_0) <| i1 65 (qm 4<|qh true<|qk .eql 0<|yo<|qm 4<|qc 669<|qm 0<|qq .neq 5<|zO 3<|qe) 73 (rs 0 (qE 2<|qF 3<|qe) .ret) <| rs 74 (qm 4<|qv 2<|qT 3<|qe) .ret
def F658 : F := mF 1 [.t 2,.t 3] none c658
attribute [go_sem] b658_0 c658 F658
def b659_0 : C := lq 8 (qm 6<|qm 0<|qh true<|qQ .leq 0<|qe) 11 0 <| sq (bk 1 (rs 14 (qm 6<|qm 0<|qh true<|qq .eql 0<|yo<|qm 0<|qm 6<|q1 (.idx (.l 5) (.l 6))<|q1 (.bin .eql (.l 7) (.c (.int .u8 46)))<|zO 4<|qe) <| cd 23 (rs 24 (qm 4<|qm 0<|qm 5<|qm 6<|q1 (.sl true 0 (.l 1) (some (.l 2)) (some (.l 3)))<|qc 657<|q1 (.mks 1 1 [.int .i64 0] [(0,.l 5)])<|q1 (.app 4 1 (.l 0) (.l 6))<|qv 4<|qe) <| r1 32 (qm 6<|qk .add 1<|qv 5<|qe)) .skip)) <| r1 12 (qm 6<|qk .add 1<|qv 6<|qe)
def l659_0 : C := .loop [] [] [] [] b659_0
def c659 : C := rs 0 (qG 2 z_3<|qF 3<|qe) <| rs 4 (q3 (.mko 1)<|qe) <| rs 0 (qz 5 0<|qe) <| sq (rs 0 (qz 6 0<|qe) <| bk 0 l659_0) <| i1 34 (qm 4<|qh false<|qK .neq 3<|qe) 36 (rs 37 (q1 (.build z_3 [])<|qt 2 3 0<|qF 3<|qe) .ret) <| rt 38 (qm 4<|q1 (.iad 1 (.l 0) (ci 0))<|q1 (.load (.e 4) none (.l 1))<|qm 4<|q1 (.iad 1 (.l 3) (ci 1))<|q1 (.load (.e 4) none (.l 4))<|qm 4<|q1 (.iad 1 (.l 6) (ci 2))<|q1 (.load (.e 4) none (.l 7))<|q1 (.build z_3 [(0,1,.l 2),(1,1,.l 5),(2,1,.l 8)])<|qG 7 z_3<|qs 7 3 10 9<|qe) <| i1 48 (qb 7 3<|qc 24<|qN<|qe) 50 (rs 51 (q1 (.build z_3 [])<|qt 2 3 0<|qF 3<|qe) .ret) <| rs 52 (qb 7 3<|qt 2 3 0<|qT 3<|qe) .ret
def F659 : F := mF 1 [.cell 2 (some 3),.t 3] none c659
attribute [go_sem] b659_0 c659 F659
def c660 : C := rs 0 (qB 4 1<|qG 6 z_36<|qe) <| rs 8 (q1 (.build z_36 [])<|qG 7 z_36<|qs 7 21 1 0<|qe) <| sq (rs 9 (q3 (.mov (.g 0))<|qe) <| bk 0 (rs 11 (q1 (.bin .eql (.g 9) (.c (.str [116,105,99,107])))<|qv 10<|qe) <| cd 10 (r2 12 (q1 (.iada 1 6 (.g 4) (ci 1))<|ql 4<|qf 7 0<|qu 7 2 4<|qf 7 1<|qs 7 1 4 1<|qe)) <| rs 17 (q1 (.bin .eql (.g 9) (.c (.str [98,101,97,116])))<|qv 16<|qe) <| cd 16 (r2 18 (q1 (.iada 1 6 (.g 4) (ci 1))<|ql 4<|qf 7 0<|qu 7 2 5<|qf 7 1<|qs 7 1 4 1<|qe)) <| rs 23 (q1 (.bin .eql (.g 9) (.c (.str [99,111,109,101])))<|qv 22<|qe) <| cd 22 (r2 24 (q1 (.iada 1 6 (.g 4) (ci 1))<|ql 4<|qf 7 0<|qu 7 2 6<|qf 7 2<|qs 7 1 4 1<|qe)) <| rs 29 (q1 (.bin .eql (.g 9) (.c (.str [108,111,115,101])))<|qv 28<|qe) <| cd 28 (r2 30 (q1 (.iada 1 6 (.g 4) (ci 1))<|ql 4<|qf 7 0<|qu 7 2 7<|qf 7 2<|qs 7 1 4 1<|qe)) <| rs 35 (q1 (.bin .eql (.g 9) (.c (.str [116,119,105,99,101])))<|qv 34<|qe) <| cd 34 (r2 36 (q1 (.iada 1 6 (.g 4) (ci 1))<|ql 4<|qf 7 0<|qu 7 2 8<|qf 7 2<|qs 7 1 4 1<|qe)) <| rs 41 (q1 (.bin .eql (.g 9) (.c (.str [119,97,108,108])))<|qv 40<|qe) <| cd 40 (r2 42 (q1 (.iada 1 6 (.g 4) (ci 1))<|ql 4<|q1 (.iada 1 6 (.g 4) (ci 2))<|ql 4<|qf 7 0<|qu 7 4 9<|qf 7 1<|qs 7 1 6 1<|qf 7 2<|qs 7 1 8 3<|qe)) <| rs 50 (q1 (.bin .eql (.g 9) (.c (.str [97,114,109])))<|qv 49<|qe) <| cd 49 (r2 51 (q1 (.iada 1 6 (.g 4) (ci 1))<|ql 4<|q1 (.iada 1 6 (.g 4) (ci 2))<|ql 4<|qf 7 0<|qu 7 4 10<|qf 7 1<|qs 7 1 6 1<|qf 7 2<|qs 7 1 8 3<|qe)) <| rs 59 (q1 (.bin .eql (.g 9) (.c (.str [99,114,97,115,104])))<|qv 58<|qe) <| cd 58 (r2 60 (q1 (.iada 1 6 (.g 4) (ci 1))<|ql 4<|q1 (.iada 1 6 (.g 4) (ci 2))<|ql 4<|qf 7 0<|qu 7 4 11<|qf 7 1<|qs 7 1 6 1<|qf 7 2<|qs 7 1 8 3<|qe)) <| rs 68 (q1 (.bin .eql (.g 9) (.c (.str [109,111,118,101])))<|qv 67<|qe) <| cd 67 (r2 69 (q1 (.iada 1 6 (.g 4) (ci 1))<|ql 4<|q1 (.iada 1 6 (.g 4) (ci 2))<|ql 4<|qf 7 0<|qu 7 4 12<|qf 7 15<|qg 0<|qu 7 7 1<|qf 7 15<|qg 1<|qs 7 1 10 1<|qf 7 15<|qg 3<|qs 7 1 13 3<|qe)) <| rs 81 (q1 (.bin .eql (.g 9) (.c (.str [115,112,108,105,116])))<|qv 80<|qe) <| cd 80 (r2 82 (q1 (.iada 1 6 (.g 4) (ci 1))<|ql 4<|qm 2<|qf 7 0<|qu 7 3 12<|qf 7 15<|qg 0<|qu 7 6 2<|qf 7 15<|qg 1<|qs 7 1 9 1<|qf 7 15<|qg 4<|qs 7 1 12 2<|qe)) <| rs 93 (q1 (.bin .eql (.g 9) (.c (.str [109,101,114,103,101])))<|qv 92<|qe) <| cd 92 (r2 94 (q1 (.iada 1 6 (.g 4) (ci 1))<|ql 4<|q1 (.iada 1 6 (.g 4) (ci 2))<|ql 4<|qf 7 0<|qu 7 4 12<|qf 7 15<|qg 0<|qu 7 7 3<|qf 7 15<|qg 1<|qs 7 1 10 1<|qf 7 15<|qg 2<|qs 7 1 13 3<|qe)) .skip)) <| rs 105 (qb 7 21<|qt 6 21 0<|qe) .ret
def F660 : F := mF 3 [.cell 6 (some 21)] none c660
attribute [go_sem] c660 F660
def b663_0 : C := rs 40 (q3 (.bin .lss (.g 39) (.g 38))<|qe) <| sq (cd 40 .skip <| .exit 0) <| sq (bk 1 (rs 41 (q1 (.iad 2 (.g 37) (.g 39))<|qJ 2<|qG 7 z_1<|qs 7 2 2 1<|qe) <| r2 43 (qm 5<|qr 7 0<|qc 673<|q1 (.bin .add (.l 3) (.c (.str [61])))<|qr 7 1<|qc 673<|qq .add 4<|q1 (.mks 1 1 [.str []] [(0,.l 8)])<|q1 (.app 35 1 (.l 0) (.l 9))<|qv 5<|qe))) <| r1 54 (q1 (.bin .add (.g 39) (ci 1))<|qv 39<|qe)
def l663_0 : C := .loop [] [] [7] [] b663_0
def c663 : C := rs 0 (qB 1 0<|qE 2<|qe) <| rs 8 (qf 1 1<|qg 14<|q1 (.load (.v 1) (some 9) (.l 1))<|qG 3 z_9<|qs 3 9 3 2<|qe) <| rs 4 (q3 (.mov (.c (.str [48])))<|qe) <| i1 11 (qf 3 4<|q3 (.load (.v 3) none (.l 0))<|qe) 12 (r1 4 (q3 (.mov (.c (.str [49])))<|qe)) <| rt 13 (qr 1 0<|qc 662<|qf 1 1<|qg 1<|qg 1<|ql 1<|qc 662<|qr 3 0<|qc 662<|qR 3 1 3<|qc 672<|qm 4<|qr 3 5<|qc 673<|qf 1 1<|qg 23<|ql 1<|qc 662<|q1 (.mkb 1 7 [.str []] [(0,.l 2),(1,.l 7),(2,.l 10),(3,.l 13),(4,.l 14),(5,.l 17),(6,.l 21)])<|qv 5<|qe) <| sq (rs 36 (qf 3 6<|q3 (.load (.v 3) none (.l 0))<|qH false<|q3 (.mov (ci 0))<|qe) <| bk 0 l663_0) <| i1 55 (qf 3 8<|q3 (.load (.v 3) none (.l 0))<|qe) 56 (r1 57 (qm 5<|qr 3 7<|qc 673<|q1 (.bin .add (.c (.str [62])) (.l 3))<|q1 (.mks 1 1 [.str []] [(0,.l 4)])<|q1 (.app 35 1 (.l 0) (.l 5))<|qv 5<|qe)) <| rs 64 (qm 5<|q1 (.call (.k 382) .borrow none [.l 0,.c (.str [32])])<|qv 2<|qe) .ret
def F663 : F := mF 1 [.t 2] none c663
attribute [go_sem] b663_0 c663 F663
def c665 : C := rs 0 (qz 2 0<|qe) <| rs 6 (qm 0<|q1 (.rcall 650 [.l 0] 0 0 20000)<|qv 3<|qe) <| rs 9 (qm 3<|qc 677<|q2 8 (.mov (.l 1))<|qx 0<|qy 1<|qw 4<|qw 5<|qe) <| i1 13 (qm 5<|q1 (.ifn (.l 0))<|yo<|qm 3<|qh true<|qk .gtr 13<|zo 2<|yo<|qm 4<|qk .lss 0<|zo 7<|yo<|qm 4<|qc 662<|qm 3<|qq .neq 13<|zO 11<|qe) 29 (rs 30 (qm 0<|q1 (.nilc (.l 0))<|qg 1<|q5 (.store (.v 0) 1 (.l 2) (cb true))<|qe) <| rs 0 (qz 2 0<|qe) .ret) <| rs 33 (qm 4<|qv 2<|qe) .ret
def F665 : F := mF 1 [.t 2] none c665
attribute [go_sem] c665 F665
def c666 : C := rs 0 (qE 2<|qe) <| rs 6 (qm 0<|q1 (.rcall 650 [.l 0] 0 0 20000)<|qc 678<|q2 5 (.mov (.l 2))<|qx 0<|qy 1<|qw 3<|qw 4<|qe) <| rs 11 (qm 0<|qm 0<|q1 (.nilc (.l 1))<|qg 1<|ql 0<|yo<|qm 4<|qk .neq 0<|zo 5<|q1 (.nilc (.l 0))<|qg 1<|qs 0 1 10 8<|qe) <| rs 22 (qm 3<|qv 2<|qe) .ret
def F666 : F := mF 1 [.t 2] none c666
attribute [go_sem] c666 F666
def c667 : C := rs 0 (qG 2 z_3<|qe) <| rs 6 (qm 0<|q1 (.rcall 650 [.l 0] 0 0 20000)<|qc 679<|q2 5 (.mov (.l 2))<|qx 0<|qy 1<|qG 3 z_3<|qs 3 3 6 4<|qV 4 5<|qe) <| rs 11 (qm 0<|qm 0<|q1 (.nilc (.l 1))<|qg 1<|ql 0<|yo<|qm 4<|qk .neq 0<|zo 5<|q1 (.nilc (.l 0))<|qg 1<|qs 0 1 10 8<|qe) <| rs 22 (qb 3 3<|qt 2 3 0<|qe) .ret
def F667 : F := mF 1 [.cell 2 (some 3)] none c667
attribute [go_sem] c667 F667
def c668 : C := rs 0 (qz 2 0<|qe) <| i1 3 (qm 0<|q1 (.bin .geq (.l 0) (.c (.int .u8 48)))<|ya<|qm 0<|q1 (.bin .leq (.l 3) (.c (.int .u8 57)))<|zA 2<|qe) 8 (rs 9 (qm 0<|q1 (.conv (.int .i64) (.l 0))<|qk .sub 48<|qv 2<|qe) .ret) <| i1 12 (qm 0<|q1 (.bin .geq (.l 0) (.c (.int .u8 65)))<|ya<|qm 0<|q1 (.bin .leq (.l 3) (.c (.int .u8 70)))<|zA 2<|qe) 17 (rs 18 (qm 0<|q1 (.conv (.int .i64) (.l 0))<|qk .sub 65<|qk .add 10<|qv 2<|qe) .ret) <| rs 0 (qz 2 99<|qe) .ret
def F668 : F := mF 1 [.t 2] none c668
attribute [go_sem] c668 F668
def b669_1 : C := lq 29 (qm 6<|qm 5<|qQ .lss 0<|qe) 31 2 <| sq (bk 3 (r1 34 (qm 3<|qm 0<|qm 6<|q1 (.idx (.l 1) (.l 2))<|qc 680<|qq .add 0<|qv 3<|qe))) <| r1 32 (qm 6<|qk .add 1<|qv 6<|qe)
def l669_1 : C := .loop [] [] [] [] b669_1
def b669_0 : C := lq 10 (qm 0<|qh true<|qK .gtr 0<|qe) 12 0 <| bk 1 (rs 14 (qm 0<|qc 188<|q2 13 (.mov (.l 1))<|qx 0<|qy 1<|qw 4<|qw 5<|qe) <| sq (rs 18 (qm 4<|qc 189<|ya<|qm 4<|qk .neq 37<|zA 2<|qe) <| cd 23 (r1 24 (qm 3<|qm 0<|qm 5<|q1 (.sl true 0 (.l 1) none (some (.l 2)))<|qq .add 0<|qv 3<|qe)) <| rs 0 (qz 6 0<|qe) <| bk 2 l669_1) <| r1 40 (qm 0<|qm 5<|q1 (.sl true 0 (.l 0) (some (.l 1)) none)<|qv 0<|qe))
def l669_0 : C := .loop [] [] [] [] b669_0
def c669 : C := rs 0 (qE 2<|qe) <| i1 7 (qm 0<|qh true<|qK .eql 0<|qe) 9 (rs 2 (q3 (.mov (.c (.str [37])))<|qe) .ret) <| rs 0 (qE 3<|qe) <| sq (bk 0 l669_0) <| rs 43 (qm 3<|qv 2<|qe) .ret
def F669 : F := mF 1 [.t 2] none c669
attribute [go_sem] b669_1 b669_0 c669 F669
def c672 : C := rs 0 (qB 1 0<|qE 2<|qe) <| i1 3 (qb 1 3<|qc 28<|qN<|qe) 5 (rs 0 (qE 2<|qe) .ret) <| rt 6 (qr 1 0<|qc 662<|q1 (.bin .add (.l 2) (.c (.str [46])))<|qr 1 1<|qc 662<|qq .add 3<|q1 (.bin .add (.l 7) (.c (.str [46])))<|qr 1 2<|qc 662<|qq .add 8<|qv 2<|qe) .ret
def F672 : F := mF 1 [.t 2] none c672
attribute [go_sem] c672 F672
def b678_0 : C := lq 11 (qm 5<|qm 0<|qh true<|qq .lss 0<|ya<|qm 0<|q1 (.bin .neq (.l 5) (.c (.str [37])))<|zA 4<|qe) 18 0 <| sq (bk 1 (i1 21 (qm 0<|qm 5<|q1 (.idx (.l 0) (.l 1))<|q3 (.bin .neq (.l 2) (.c (.int .u8 37)))<|qe) 24 (rs 25 (qm 4<|qm 0<|qm 5<|q1 (.idx (.l 1) (.l 2))<|q1 (.mks 1 1 [.int .u8 0] [(0,.l 3)])<|q1 (.app 4 1 (.l 0) (.l 4))<|qv 4<|qe) <| .exit 1) <| i1 31 (qm 5<|qk .add 2<|qm 0<|qh true<|qQ .geq 1<|qe) 35 (rs 0 (qE 2<|qz 3 3<|qe) .ret) <| rs 37 (qm 0<|qm 5<|qk .add 1<|q1 (.idx (.l 0) (.l 2))<|qc 689<|q2 36 (.mov (.l 4))<|qx 0<|qy 1<|qw 6<|qw 7<|qe) <| rs 45 (qm 0<|qm 5<|qk .add 2<|q1 (.idx (.l 0) (.l 2))<|qc 689<|q2 44 (.mov (.l 4))<|qx 0<|qy 1<|qw 8<|qw 9<|qe) <| i1 52 (qm 7<|qn<|yo<|qm 9<|qn<|zO 2<|qe) 57 (rs 0 (qE 2<|qz 3 3<|qe) .ret) <| rs 58 (qm 4<|qm 6<|q1 (.sh .shl (.l 1) (.c (.int .u64 4)))<|qm 8<|qq .or 2<|q1 (.mks 1 1 [.int .u8 0] [(0,.l 4)])<|q1 (.app 4 1 (.l 0) (.l 5))<|qv 4<|qe) <| r1 65 (qm 5<|qk .add 2<|qv 5<|qe))) <| r1 19 (qm 5<|qk .add 1<|qv 5<|qe)
def l678_0 : C := .loop [] [] [] [] b678_0
def c678 : C := rs 0 (qE 2<|qz 3 0<|qe) <| rs 4 (q3 (.mko 1)<|qe) <| sq (rs 0 (qz 5 0<|qe) <| bk 0 l678_0) <| sq (rs 67 (qm 4<|q1 (.b2s (.l 0))<|qv 10<|qe) <| rs 69 (qm 10<|qc 673<|qm 0<|qQ .eql 1<|qe) <| cd 72 (rs 73 (qm 10<|qv 2<|qz 3 0<|qe) .ret) .skip) <| rs 0 (qE 2<|qz 3 3<|qe) .ret
def F678 : F := mF 1 [.t 2,.t 3] none c678
attribute [go_sem] b678_0 c678 F678
def b679_0 : C := rs 23 (q3 (.bin .lss (.g 22) (.g 21))<|qe) <| sq (cd 23 .skip <| .exit 0) <| sq (bk 1 (rs 24 (qm 22<|q1 (.iad 1 (.g 20) (.g 22))<|qj<|qV 6 0<|qw 7<|qe) <| r1 28 (qm 6<|qm 7<|qc 677<|q2 27 (.mov (.l 2))<|qx 0<|qy 1<|q1 (.iada 1 3 (.g 5) (.l 0))<|qs 5 1 6 4<|qe))) <| r1 34 (q1 (.bin .add (.g 22) (ci 1))<|qv 22<|qe)
def l679_0 : C := .loop [] [] [] [] b679_0
def c679 : C := rs 0 (qG 2 z_3<|qz 3 0<|qe) <| rs 9 (qm 0<|qC 649 [.l 0,.c (.str [46])]<|qv 4<|qe) <| i1 11 (qm 4<|qh false<|qk .neq 3<|yo<|qm 0<|qh true<|qk .gtr 30<|zO 3<|qe) 18 (rs 19 (q1 (.build z_3 [])<|qt 2 3 0<|qz 3 3<|qe) .ret) <| rs 0 (qG 5 z_3<|qe) <| sq (rs 20 (q3 (.mov (.g 4))<|qH false<|q3 (.mov (ci 0))<|qe) <| bk 0 l679_0) <| rs 35 (q1 (.iada 1 3 (.g 5) (ci 0))<|ql 5<|q1 (.iada 1 3 (.g 5) (ci 1))<|ql 5<|q1 (.iada 1 3 (.g 5) (ci 2))<|ql 5<|q1 (.build z_3 [(0,1,.l 1),(1,1,.l 3),(2,1,.l 5)])<|qG 8 z_3<|qs 8 3 7 6<|qe) <| i1 42 (qb 8 3<|qc 672<|qm 0<|qQ .neq 1<|qe) 45 (rs 46 (q1 (.build z_3 [])<|qt 2 3 0<|qz 3 3<|qe) .ret) <| rs 47 (qb 8 3<|qt 2 3 0<|qz 3 0<|qe) .ret
def F679 : F := mF 1 [.cell 2 (some 3),.t 3] none c679
attribute [go_sem] b679_0 c679 F679
def c680 : C := rs 0 (qE 2<|qe) <| rs 3 (q3 (.mov (.c (.str [48,49,50,51,52,53,54,55,56,57,65,66,67,68,69,70])))<|qe) <| rt 4 (qm 3<|qm 0<|q1 (.bin .quo (.l 1) (.c (.int .u8 16)))<|qm 0<|q1 (.bin .quo (.l 3) (.c (.int .u8 16)))<|q1 (.bin .add (.l 4) (.c (.int .u8 1)))<|q1 (.sl true 0 (.l 0) (some (.l 2)) (some (.l 5)))<|q1 (.bin .add (.c (.str [37])) (.l 6))<|qm 3<|qm 0<|q1 (.bin .rem (.l 9) (.c (.int .u8 16)))<|qm 0<|q1 (.bin .rem (.l 11) (.c (.int .u8 16)))<|q1 (.bin .add (.l 12) (.c (.int .u8 1)))<|q1 (.sl true 0 (.l 8) (some (.l 10)) (some (.l 13)))<|qq .add 7<|qv 2<|qe) .ret
def F680 : F := mF 1 [.t 2] none c680
attribute [go_sem] c680 F680
def c689 : C := rs 2 (q3 (.mov (.c (.int .u8 0)))<|q3 (.mov (cb false))<|qe) <| rs 5 (qm 0<|qC 704 [.c (.str [48,49,50,51,52,53,54,55,56,57,65,66,67,68,69,70]),.l 0]<|qv 4<|qe) <| rs 7 (qm 4<|q1 (.conv (.int .u8) (.l 0))<|qm 4<|qk .geq 0<|qV 2 1<|qw 3<|qe) .ret
def F689 : F := mF 1 [.t 2,.t 3] none c689
attribute [go_sem] c689 F689
end Sg
namespace Sg
open _root_.Go _root_.Go.RowKit _root_.Go.Proofs _root_.Go.Shelf
def renU:Shelf.Ren:=⟨fun|197=>85|260=>135|n=>n,fun|0=>0|3=>3|4=>4|5=>5|9=>9|21=>21|46=>174|105=>170|119=>313|138=>315|139=>316|n=>n,fun|3=>2|4=>3|n=>n⟩
set_option maxRecDepth 1000000 in
theorem lays197:Lays.n197 Tryz.prog renU where
 mixed:=by kernel_rfl
 f197:=Tryz.func85.trans (congrArg some (by kernel_rfl))
 f260:=Tryz.func135.trans (congrArg some (by kernel_rfl))
 t0:=Tryz.underlying0
 a0:=Tryz.isAgg0
 z0:=Tryz.sizeOf0
 v0:=Tryz.zeroValue0
 t3:=Tryz.underlying3
 a3:=Tryz.isAgg3
 z3:=Tryz.sizeOf3
 v3:=Tryz.zeroValue3
 t4:=Tryz.underlying4
 a4:=Tryz.isAgg4
 z4:=Tryz.sizeOf4
 v4:=Tryz.zeroValue4
 t5:=Tryz.underlying5
 a5:=Tryz.isAgg5
 z5:=Tryz.sizeOf5
 v5:=Tryz.zeroValue5
 t9:=Tryz.underlying9
 a9:=Tryz.isAgg9
 z9:=Tryz.sizeOf9
 v9:=Tryz.zeroValue9
 t21:=Tryz.underlying21
 a21:=Tryz.isAgg21
 z21:=Tryz.sizeOf21
 v21:=Tryz.zeroValue21
 t46:=Tryz.underlying174
 a46:=Tryz.isAgg174
 z46:=Tryz.sizeOf174
 v46:=Tryz.zeroValue174
 t105:=Tryz.underlying170
 a105:=Tryz.isAgg170
 z105:=Tryz.sizeOf170
 v105:=Tryz.zeroValue170
 t119:=Tryz.underlying313
 a119:=Tryz.isAgg313
 z119:=Tryz.sizeOf313
 t138:=Tryz.underlying315
 a138:=Tryz.isAgg315
 z138:=Tryz.sizeOf315
 v138:=Tryz.zeroValue315
 t139:=Tryz.underlying316
 a139:=Tryz.isAgg316
 z139:=Tryz.sizeOf316
 v139:=Tryz.zeroValue316
 g3:=by kernel_rfl
 g4:=by kernel_rfl
theorem dec_walk (s:ByteArray) (w:World) (hT:Lib.Utf8Tabs 2 3 w) :
  Calls Tryz.prog 85 #[.string s] w fun e w'=>e=.returned (.tuple #[.int .i32 (Lib.decodeGo s).1,.int .i64 (Lib.decodeGo s).2])∧Below w.heap.size w w':=
 Any.utf8_DecodeRuneInString lays197 s w hT
theorem tabs_st (w w':World) (h:Lib.Utf8Tabs 2 3 w) (hb:∀b,b<4→w'.heap[b]?=w.heap[b]?):Lib.Utf8Tabs 2 3 w':=by
 have e:∀b o,b<4→w'.cell? ⟨b,o,none⟩=w.cell? ⟨b,o,none⟩:=fun b o hlt=>by
  simp only[World.cell?,hb b hlt]
 exact⟨fun c hc=>by rw[e _ _ (by decide)];exact h.1 c hc,fun i hi=>by rw[e _ _ (by decide),e _ _ (by decide)];exact h.2 i hi⟩
def tmS (n:Nat):Nat:=if n=162 then 155 else if n=197 then 192 else if n=155 then 162 else if n=192 then 197 else n
theorem tmS_inj (a b:Nat) (h:tmS a=tmS b):a=b:=by
 unfold tmS at h
 repeat' split at h
 all_goals omega
def GS (w:World):Prop:=Lib.Utf8Tabs 2 3 w∧Lib.TabIs Tryz.prog w "internal/strconv.uint64pow10" .u64 Lib.pow10Tab∧(∃m,w.cell? ⟨0,0,none⟩=some (.int .i64 m))∧(∃te pe,w.cell? ⟨4,0,none⟩=some (.iface te pe))∧∃te pe,w.cell? ⟨5,0,none⟩=some (.iface te pe)
theorem gs_st (w w':World) (h:GS w) (hb:∀b,b<6→w'.heap[b]?=w.heap[b]?):GS w':=by
 have e:∀b o,b<6→w'.cell? ⟨b,o,none⟩=w.cell? ⟨b,o,none⟩:=fun b o hlt=>by
  simp only[World.cell?,hb b hlt]
 obtain⟨h1,h2,⟨m,h3⟩,⟨a,b,h4⟩,d,f,h5⟩:=h;refine⟨tabs_st w w' h1 (fun b hlt=>hb b (by omega)),?_,⟨m,(e _ _ (by decide)).trans h3⟩,⟨a,b,(e _ _ (by decide)).trans h4⟩,d,f,(e _ _ (by decide)).trans h5⟩;have hg:Tryz.prog.globalNamed "internal/strconv.uint64pow10"=some 1:=by kernel_rfl
 unfold Lib.TabIs World.var? at h2 ⊢;rw[hg] at h2 ⊢;simp only[Option.bind_some] at h2 ⊢;rw[hb 1 (by decide)];exact h2
def cxU (l:List (Nat×Nat)):Cx where
 fm:=fun n=>(look l n).getD 0
 tm:=tmS
 gn:=6
 G:=GS
 Gst:=gs_st
 tinj:=tmS_inj
set_option maxRecDepth 1000000 in
theorem key_walk (s:ByteArray) (w:World) (hgn:6≤w.heap.size) (hT:GS w)
  (hplain:∀(r n:Int) (w:World),6≤w.heap.size→GS w→Calls Tryz.prog 86 #[.int .i32 r,.int .i64 n] w fun e w'=>e=.returned (.bool (plainR r n))∧Below w.heap.size w w') :
  Calls Tryz.prog 229 #[.string s] w fun e w'=>e=.returned (.bool (keyR s.data.toList))∧Below w.heap.size w w':=by
 have t0:=Tryz.underlying0;have t3:=Tryz.underlying3;have t4:=Tryz.underlying4;have t9:=Tryz.underlying9;have t21:=Tryz.underlying21
 have hu0:=run_underlying t0;have hu3:=run_underlying t3;have hu4:=run_underlying t4;have hu9:=run_underlying t9;have hu21:=run_underlying t21
 have mixed:Tryz.prog.follows .mixedOrders=true:=by kernel_rfl
 have a0:=Tryz.isAgg0;have z0:=Tryz.sizeOf0;have v0:=Tryz.zeroValue0
 have a3:=Tryz.isAgg3;have z3:=Tryz.sizeOf3;have v3:=Tryz.zeroValue3
 have a4:=Tryz.isAgg4;have z4:=Tryz.sizeOf4;have v4:=Tryz.zeroValue4
 have a9:=Tryz.isAgg9;have z9:=Tryz.sizeOf9;have v9:=Tryz.zeroValue9
 have a21:=Tryz.isAgg21;have z21:=Tryz.sizeOf21;have v21:=Tryz.zeroValue21
 go_enter Tryz.func229,Tryz.ntmps229
 go_wp2
 go_loopw [3] (fun _ wr=>∃(pos fuel:Nat),wr.heap[w.heap.size]?=some (.stringIter s pos)∧Below w.heap.size w wr∧keyAll fuel (s.data.toList.drop pos)=keyAll s.size s.data.toList∧s.size≤pos+fuel) (fun _ wr=>s.size-wr.iterPos w.heap.size)
 case atStart=>
  refine⟨0,s.size,?_,(Below.refl _ w).alloc (Nat.le_refl _) _,by simp,by omega⟩
  have:=World.iter_heap w s 0
  simpa using this
 case round=>
  obtain⟨pos,fuel,hit,hbw,hacc,hfu⟩:=hrel
  have hsz:w.heap.size<wr.heap.size:=(Array.getElem?_eq_some_iff.1 hit).1
  have hbT:∀W:World,Below w.heap.size w W→GS W:=fun W h=>gs_st w W hT fun b hb=>h.block b (by omega)
  by_cases hp:pos<s.size
  ·have hnx:∀ty,(Instr.next (.pointer (some ⟨w.heap.size,0,none⟩)) true ty).run Tryz.prog wr=_:=fun ty=>Lib.run_next_any_at wr w.heap.size s pos ty hit hp
   have hbw2:=Lib.below_iterAt hbw (k:=w.heap.size) (by omega) s (pos+(Utf8.decode s pos).2)
   have hit2:=Lib.iterAt_heap wr w.heap.size s pos (pos+(Utf8.decode s pos).2) hit
   have hsz2:w.heap.size+1≤(wr.iterAt w.heap.size s (pos+(Utf8.decode s pos).2)).heap.size:=by rw[Lib.iterAt_size];omega
   have hde:∀n,n=s.size→Lib.decodeGo (s.extract pos n)=Utf8.decode s pos:=fun n hn=>decode_extract s pos n hn hp
   have hw1:=width_pos s pos
   obtain⟨f,rfl⟩:∃f,fuel=f+1:=⟨fuel-1,by omega⟩
   have hnil:s.data.toList.drop pos≠[]:=fun e=>by
    exact drop_ne s pos hp e
   have hdN:=decode_drop s pos
   simp only[keyAll,hnil,if_false,←hdN] at hacc
   generalize Utf8.decode s pos=D at *
   clear hdN hnil
   obtain⟨D1,D2⟩:=D
   simp only at hw1 hacc hbw2 hit2 hsz2 hde hnx
   have hsl:=size_list s
   have hfin:∀W:World,plainR D1 D2=false→keyR s.data.toList=false:=fun W hpl=>by
    rw[hpl,Bool.false_and] at hacc;rw[keyR,hsl,←hacc,Bool.false_and]
   clear hsl
   go_wp2_with (go_at_call 85;refine (dec_walk _ _ (hbT _ hbw2).1).mono ?_;rintro e W1 ⟨rfl,b1⟩)
   have hb3:=hbw2.trans (b1.mono (by omega))
   have hs3:W1.heap.size≥w.heap.size+1:=Nat.le_trans hsz2 b1.size
   have hit3:W1.heap[w.heap.size]?=some (.stringIter s (pos+D2)):=(b1.block _ (by omega)).trans hit2
   have hpl:=hplain D1 D2 W1 (by omega) (hbT _ hb3)
   cases hP:plainR D1 D2 with
   |false=>
    rw[hP] at hpl
    have hke:=hfin w hP
    clear hacc hfin
    go_wp2_with (go_at_call 86;refine hpl.mono ?_;rintro e W2 ⟨rfl,b2⟩)
    have hb4:=hb3.trans (b2.mono (by omega))
    go_wp2
    go_ret
    rw[hke]
    exact⟨rfl,hb4⟩
   |true=>
    rw[hP,Bool.true_and,List.drop_drop] at hacc
    rw[hP] at hpl
    clear hfin
    obtain⟨kk,hkk⟩:∃kk,kk=keyAll s.size s.data.toList:=⟨_,rfl⟩
    go_wp2_with (go_at_call 86;refine hpl.mono ?_;rintro e W2 ⟨rfl,b2⟩)
    have hb4:=hb3.trans (b2.mono (by omega))
    have hit4:W2.heap[w.heap.size]?=some (.stringIter s (pos+D2)):=(b2.block _ (by omega)).trans hit3
    go_wp2
    go_roundw
    case rel=>exact⟨pos+D2,f,hit4,hb4,hacc,by omega⟩
    case measure=>
     simp only[World.iterPos,hit4,hit]
     omega
  ·have hnx:∀ty,(Instr.next (.pointer (some ⟨w.heap.size,0,none⟩)) true ty).run Tryz.prog wr=_:=fun ty=>Lib.run_next_end_at wr w.heap.size s pos ty hit hp
   have hall:keyAll s.size s.data.toList=true:=by
    rw[←hacc,List.drop_eq_nil_of_le (by rw[size_list];omega)];cases fuel<;>simp[keyAll]
   have hkey:keyR s.data.toList=(decide ((1:Int)≤s.size)&&decide ((s.size:Int)≤16)):=by
    rw[keyR,size_list,hall,Bool.true_and]
    congr 1<;>exact decide_eq_decide.2 (by omega)
   clear hacc hall
   by_cases h1:(1:Int)≤s.size
   ·rw[decide_eq_true h1,Bool.true_and] at hkey
    go_wp2
    go_ret
    exact⟨by first|rfl|(rw[hkey];rfl),hbw⟩
   ·rw[decide_eq_false h1,Bool.false_and] at hkey
    go_wp2
    go_ret
    exact⟨by first|rfl|(rw[hkey];rfl),hbw⟩
end Sg
namespace Sg
open _root_.Go.Lib (atoiAll itoa decDigits parseUint10 parseMag NumEnd atoiSat)
def YT (b:UInt8):Bool:=decide (48≤b.toNat)&&decide (b.toNat≤57)
def YB (a:Nat) (l:List UInt8):Nat:=l.foldl (fun a b=>a*10+(b.toNat-48)) a
def Y5 (w:List UInt8):Bool:=!decide (w=[])&&(!(decide (1<w.length)&&decide (w.head?=some 48))&&w.all YT)
def numB (w:List UInt8):Int:=if Y5 w&&decide (w.length≤13) then (YB 0 w:Nat) else -1
def numP (w:List UInt8):Option Int:=match atoiAll w with
 |.ok n=>if w.length≤13∧0≤n∧itoa n=w then some n else none
 |_=>none
theorem YP {b:UInt8}:YT b=true↔48≤b.toNat∧b.toNat≤57:=by simp[YT]
theorem YaY:∀(l:List UInt8) (a:Nat),l.all YT=true→(a+1)*10 ^ l.length≤10 ^ 18→parseUint10 a l=.ok (YB a l)
 |[],a,_,_=>rfl
 |c::r,a,h,hb=>by
  simp only[List.all_cons,Gg] at h;have hd:=YP.1 h.1;have hp:1≤10 ^ r.length:=Nat.one_le_pow _ _ (by decide);have e:(a+1)*10 ^ (c::r).length=((a+1)*10)*10 ^ r.length:=by rw[List.length_cons,Nat.pow_succ,Nat.mul_assoc,Nat.mul_comm 10]
  rw[e] at hb;have h1:(a+1)*10≤10 ^ 18:=GK (Nat.le_mul_of_pos_right _ hp) hb;have ih:=YaY r (a*10+(c.toNat-48)) h.2 (GK (Gq _ (by omega)) hb);unfold parseUint10;rw[Gl hd,Gj (by omega),Gj (by omega),ih]
  rfl
theorem YaM (a:Nat) (l:List UInt8) (b:UInt8):YB a (l++[b])=YB a l*10+(b.toNat-48):=by simp[YB]
theorem Yw {u:Nat} (h:u<10):decDigits u=[UInt8.ofNat (48+u)]:=by rw[decDigits,dif_pos h]
theorem YaA {u:Nat} (h:¬u<10):decDigits u=decDigits (u / 10)++[UInt8.ofNat (48+u % 10)]:=by rw[decDigits,dif_neg h]
theorem Ycb {d:Nat} (h:d<10):(UInt8.ofNat (48+d)).toNat=48+d:=by
 rw[UInt8.toNat_ofNat'];omega
theorem Yca (u:Nat):decDigits u≠[]:=by
 by_cases h:u<10
 ·rw[Yw h];simp
 ·rw[YaA h];simp
theorem Ya4 (u:Nat):(decDigits u).all YT=true∧YB 0 (decDigits u)=u∧((decDigits u).head?=some 48→u=0):=by
 induction u using Nat.strongRecOn with
 |_ u ih=>
  by_cases h:u<10
  ·rw[Yw h];have:=Ycb h;refine⟨by simp only[List.all_cons,List.all_nil,Bool.and_true,YP,this];omega,by simp only[YB,List.foldl_cons,List.foldl_nil,this];omega,fun q=>?_⟩;simp only[List.head?_cons,Ga] at q;have q:=congrArg UInt8.toNat q;rw[this] at q;have:(48:UInt8).toNat=48:=rfl;omega
  ·obtain⟨i1,i2,i3⟩:=ih (u / 10) (by omega);rw[YaA h];have:=Ycb (d:=u % 10) (by omega);refine⟨by simp only[List.all_append,i1,List.all_cons,List.all_nil,Bool.and_true,Bool.true_and,YP,this];omega,by rw[YaM,i2,this];omega,fun q=>?_⟩;cases hd:decDigits (u / 10) with
   |nil=>exact absurd hd (Yca _)
   |cons x l=>
    rw[hd,List.cons_append,List.head?_cons] at q;rw[hd,List.head?_cons] at i3;have:=i3 q;omega
theorem YbE (u:Nat):Y5 (decDigits u)=true:=by
 obtain⟨h1,-,h3⟩:=Ya4 u;simp only[Y5,Gg,GH,GL,Bool.and_eq_false_iff,h1,and_true];refine⟨Yca u,?_⟩;by_cases h:(decDigits u).head?=some 48
 ·have:=h3 h;subst this;exact .inl (by rw[Yw (by decide)];simp)
 ·exact .inr h
theorem dec_can:∀(k:Nat) (w:List UInt8),w.length=k→Y5 w=true→decDigits (YB 0 w)=w
 |0,w,hk,h=>by
  rw[List.length_eq_zero_iff.1 hk] at h;simp[Y5] at h
 |k+1,w,hk,h=>by
  obtain⟨l,b,rfl⟩:∃l b,w=l++[b]:=⟨w.dropLast,w.getLast (by intro e;rw[e] at hk;simp at hk),(List.dropLast_concat_getLast _).symm⟩;simp only[Y5,Gg,GH,GL,Bool.and_eq_false_iff,List.all_append,List.all_cons,List.all_nil,Bool.and_true] at h;obtain⟨-,h1,h2,h3⟩:=h;have hd:=YP.1 h3;have hb:UInt8.ofNat (48+(b.toNat-48))=b:=by rw[show 48+(b.toNat-48)=b.toNat by omega];simp
  rw[YaM];cases l with
  |nil=>
   have:YB 0 ([]:List UInt8)=0:=rfl;rw[this,Nat.zero_mul,G7,Yw (by omega),hb];rfl
  |cons x r=>
   have hh:(x::r).head?≠some 48:=by
    rcases h1 with h1|h1
    ·simp at h1
    ·simpa using h1
   have hc:Y5 (x::r)=true:=by
    simp only[Y5,Gg,GH,GL,Bool.and_eq_false_iff];exact⟨by simp,.inr hh,h2⟩
   have ih:=dec_can k (x::r) (by simpa using hk) hc;have hx:1≤YB 0 (x::r):=by
    rcases Nat.eq_zero_or_pos (YB 0 (x::r)) with h0|h0
    ·rw[h0,Yw (by decide)] at ih;injection ih with e1 e2
     exact absurd (by rw[←e1];rfl) hh
    ·exact h0
   rw[YaA (by omega),show (YB 0 (x::r)*10+(b.toNat-48)) / 10=YB 0 (x::r) by omega,ih,show (YB 0 (x::r)*10+(b.toNat-48)) % 10=b.toNat-48 by omega,hb]
theorem YbX {w:List UInt8} (h:Y5 w=true):w≠[]∧w.all YT=true:=by
 simp only[Y5,Gg,GH,GL] at h;exact⟨h.1,h.2.2⟩
theorem YbJ:∀(l:List UInt8) (a:Nat),l.all YT=true→YB a l<(a+1)*10 ^ l.length:=by
 intro l
 induction l with
 |nil=>intro a _;simp[YB]
 |cons c r ih=>
  intro a hd;simp only[List.all_cons,Gg] at hd;have h3:=YP.1 hd.1;have h4:=ih (a*10+(c.toNat-48)) hd.2;have e:(a+1)*10 ^ (c::r).length=((a+1)*10)*10 ^ r.length:=by rw[List.length_cons,Nat.pow_succ,Nat.mul_assoc,Nat.mul_comm 10]
  rw[e];exact GC h4 (Gq _ (by omega))
theorem Ybj {w:List UInt8} (h:Y5 w=true) (hl:w.length≤13):atoiAll w=.ok (YB 0 w:Nat)∧YB 0 w<10 ^ 13:=by
 obtain⟨h1,h2⟩:=YbX h;have hp:10 ^ w.length≤10 ^ 13:=Nat.pow_le_pow_right (by decide) hl;have hpar:=YaY w 0 h2 (by omega);have hv:=YbJ w 0 h2;rw[G7,Nat.one_mul] at hv;cases w with
 |nil=>exact absurd rfl h1
 |cons c r=>
  simp only[List.all_cons,Gg] at h2;have h3:=YP.1 h2.1;have hm:parseMag (c::r)=.ok (YB 0 (c::r)):=by unfold parseMag;rw[Gj (by simp),hpar]
  refine⟨?_,by omega⟩;unfold atoiAll;have c1:¬c.toNat=43:=by omega
  have c2:¬c.toNat=45:=by omega
  have c3:¬9223372036854775808≤YB 0 (c::r):=by omega
  simp only[c1,c2,or_self,GD,hm,not_false_eq_true,true_and,false_and,c3]
theorem Yu (n:Nat):itoa (n:Int)=decDigits n:=by
 unfold itoa;rw[Gj (by omega),Int.toNat_natCast]
theorem YcX (w:List UInt8):numP w=if 0≤numB w then some (numB w) else none:=by
 unfold numB;cases h:(Y5 w&&decide (w.length≤13)) with
 |true=>
  simp only[Gg,Gz] at h;obtain⟨h1,h2⟩:=h;have ha:=(Ybj h1 h2).1;unfold numP;simp only[ha,Gx];rw[Gl ⟨h2,by omega,by rw[Yu];exact dec_can _ w rfl h1⟩,Gl (by omega)]
 |false=>
  simp only[Gr,GD];rw[Gj (by decide)];unfold numP;split
  ·rename_i n hn;rw[Gj];rintro⟨h1,h2,h3⟩;obtain⟨k,rfl⟩:∃k:Nat,n=(k:Int):=⟨n.toNat,by omega⟩;rw[Yu] at h3;have:=YbE k;rw[h3] at this;simp[this,h1] at h
  ·rfl
end Sg
namespace Sg
open _root_.Go.Lib (atoiAll itoa decDigits atoiSat)
def splt (c:UInt8):List UInt8→List (List UInt8)
 |[]=>[[]]
 |b::l=>if b=c then []::splt c l else match splt c l with
  |x::r=>(b::x)::r
  |[]=>[[b]]
theorem YaD (c:UInt8) (l:List UInt8):splt c l≠[]:=by
 cases l with
 |nil=>simp[splt]
 |cons b l=>
  unfold splt;split
  ·simp
  ·split<;>simp
theorem Yaq {c:UInt8} {a l:List UInt8} (h:c∉a):splt c (a++c::l)=a::splt c l:=by
 induction a with
 |nil=>simp[splt]
 |cons b a ih=>
  rw[List.cons_append,splt,Gj (by intro e;exact h (by simp[e])),ih (fun q=>h (GF _ q))]
theorem Yay {c:UInt8} {a:List UInt8} (h:c∉a):splt c a=[a]:=by
 induction a with
 |nil=>rfl
 |cons b a ih=>rw[splt,Gj (by intro e;exact h (by simp[e])),ih (fun q=>h (GF _ q))]
def joinB (c:UInt8):List (List UInt8)→List UInt8
 |[]=>[]
 |[x]=>x
 |x::r=>x++c::joinB c r
theorem Yau (c:UInt8):∀l,joinB c (splt c l)=l
 |[]=>rfl
 |b::l=>by
  have ih:=Yau c l;unfold splt;split
  ·rename_i h;cases hs:splt c l with
   |nil=>exact absurd hs (YaD c l)
   |cons x r=>rw[hs] at ih;rw[←h] at *;simp only[joinB,List.nil_append,ih]
  ·split
   ·rename_i x r hs;rw[hs] at ih;cases r with
    |nil=>simp only[joinB] at ih ⊢;rw[ih]
    |cons y r=>simp only[joinB,List.cons_append] at ih ⊢;rw[ih]
   ·rename_i hs;exact absurd hs (YaD c l)
theorem Yac:∀(k u:Nat),u<10 ^ (k+1)→(decDigits u).length≤k+1
 |0,u,h=>by rw[Yw (by simpa using h)];simp
 |k+1,u,h=>by
  by_cases hu:u<10
  ·rw[Yw hu];simp
  ·have:=Yac k (u / 10) (by rw[Nat.pow_succ] at h;omega);rw[YaA hu];simp;omega
theorem Ya5 (u:Nat):(46:UInt8)∉decDigits u:=fun h=>by
 have:=Gs.1 (Ya4 u).1 _ h;simp[YT] at this
def Yy (x y z:Int):Bool:=(decide (0≤x)&&decide (x≤1099511627776))&&((decide (0≤y)&&decide (y≤1048576))&&(decide (0≤z)&&decide (z≤255)))
def atV (a:List UInt8):Int:=match atoiAll a with
 |.ok n=>n
 |.range=>atoiSat a
 |_=>0
def Y4 (x y z:Int):List UInt8:=itoa x++46::(itoa y++46::itoa z)
def stP (w:List UInt8):Option (Int×Int×Int):=match splt 46 w with
 |[a,b,c]=>if w.length≤30∧Yy (atV a) (atV b) (atV c)=true∧Y4 (atV a) (atV b) (atV c)=w then some (atV a,atV b,atV c) else none
 |_=>none
def stD (w:List UInt8):Option (Int×Int×Int):=match (splt 46 w).map numB with
 |[x,y,z]=>if Yy x y z=true then some (x,y,z) else none
 |_=>none
theorem Yaf {x y z:Int}:Yy x y z=true↔(0≤x∧x≤1099511627776)∧(0≤y∧y≤1048576)∧(0≤z∧z≤255):=by simp[Yy]
theorem YaL {u:Nat} (h:u<10 ^ 13):numB (decDigits u)=u:=by
 have h1:=YbE u;have h2:=Yac 12 u h;unfold numB;rw[h1,GN h2];simp only[Bool.and_self,Gx,(Ya4 u).2.1]
theorem Ya6 {a:List UInt8} (h:0≤numB a):atV a=numB a∧itoa (numB a)=a:=by
 unfold numB at h ⊢;split at h
 ·rename_i hc;simp only[Gg,Gz] at hc;have h1:=(Ybj hc.1 hc.2).1;rw[Gl (by simp[hc.1,hc.2])];exact⟨by unfold atV;rw[h1],by rw[Yu];exact dec_can _ a rfl hc.1⟩
 ·omega
theorem Ydx (w:List UInt8):stP w=stD w:=by
 have hj:=Yau 46 w;unfold stP stD;split
 ·rename_i a b c hs;rw[hs] at hj ⊢;simp only[joinB] at hj;simp only[Gv,Gp];by_cases h:Yy (numB a) (numB b) (numB c)=true
  ·have h':=Yaf.1 h;obtain⟨a1,a2⟩:=Ya6 h'.1.1;obtain⟨b1,b2⟩:=Ya6 h'.2.1.1;obtain⟨c1,c2⟩:=Ya6 h'.2.2.1;obtain⟨i,hi⟩:∃i:Nat,numB a=(i:Int):=⟨(numB a).toNat,by omega⟩;obtain⟨j,hj'⟩:∃i:Nat,numB b=(i:Int):=⟨(numB b).toNat,by omega⟩;obtain⟨k,hk⟩:∃i:Nat,numB c=(i:Int):=⟨(numB c).toNat,by omega⟩;have l1:a.length≤13:=by rw[←a2,hi,Yu];exact Yac 12 i (by omega)
   have l2:b.length≤7:=by rw[←b2,hj',Yu];exact Yac 6 j (by omega)
   have l3:c.length≤3:=by rw[←c2,hk,Yu];exact Yac 2 k (by omega)
   have hlen:w.length≤30:=by rw[←hj];simp only[Gk,List.length_cons];omega
   have hsh:Y4 (numB a) (numB b) (numB c)=w:=by unfold Y4;rw[a2,b2,c2];exact hj
   rw[a1,b1,c1,Gl ⟨hlen,h,hsh⟩,Gl h]
  ·rw[Gj h,Gj];rintro⟨h1,h2,h3⟩;have h':=Yaf.1 h2;obtain⟨i,hi⟩:∃i:Nat,atV a=(i:Int):=⟨(atV a).toNat,by omega⟩;obtain⟨j,hj'⟩:∃i:Nat,atV b=(i:Int):=⟨(atV b).toNat,by omega⟩;obtain⟨k,hk⟩:∃i:Nat,atV c=(i:Int):=⟨(atV c).toNat,by omega⟩;unfold Y4 at h3;rw[hi,hj',hk,Yu,Yu,Yu] at h3;have e:splt 46 w=[decDigits i,decDigits j,decDigits k]:=by
    rw[←h3,Yaq (Ya5 i),Yaq (Ya5 j),Yay (Ya5 k)]
   rw[hs] at e;simp only[Gab,and_true] at e;obtain⟨rfl,rfl,rfl⟩:=e;rw[hi,hj',hk] at h2;rw[YaL (by omega),YaL (by omega),YaL (by omega)] at h;exact h h2
 ·rename_i hs;split
  ·rename_i x y z h2
   match hq:splt 46 w,h2 with
   |[a,b,c],_=>exact absurd hq (hs a b c)
  ·rfl
end Sg
namespace Sg
open _root_.Go (IntKind BinOp UnOp)
variable {Pg:PgT}
theorem YI {i n:Nat} (h:decide ((i:Int)<(n:Int))=true):i<n:=by simpa using h
theorem YH {i n:Nat} (h:i<n) (hn:n<2 ^ 60):IntKind.i64.wrap ((i:Int)+1)=((i+1:Nat):Int):=JmB (by omega) (by omega)
theorem YK {α:Type} {l:List α} {i:Nat} {x:α} (h:l[i]?=some x):l.take (i+1)=l.take i++[x]:=by rw[GW,h];rfl
end Sg
namespace Sg
open _root_.Go
theorem YbY (n a b c d:Nat):1≤(Lib.decodeN n a b c d).2∧(Lib.decodeN n a b c d).2≤4:=by
 unfold Lib.decodeN
 repeat' split
 all_goals simp
theorem Ydl (l:List UInt8):1≤(dN l).2:=(YbY ..).1
theorem YD {l:List UInt8} (h:l≠[]):(l.drop (dN l).2).length<l.length:=by
 have:=Ydl l;have:0<l.length:=Gac.2 h;rw[Gu];omega
def Yr:Int→List UInt8→Option Int
 |a,[]=>some a
 |a,b::l=>if b.toNat<128∨191<b.toNat then none else Yr (64*a+b.toNat-128) l
def cls (a:Int):Nat×Int×Int:=
 if 194≤a∧a<224 then (2,128,a-192) else if 224≤a∧a<240 then (3,2048,a-224) else if 240≤a∧a<245 then (4,65536,a-240) else (0,0,a)
def YJ (l:List UInt8):Int×Int:=
 match l with
 |[]=>(-1,1)
 |b::t=>if b.toNat<128 then ((b.toNat:Int),1) else
  if (cls b.toNat).1=0∨l.length<(cls b.toNat).1 then (-1,1) else
   match Yr (cls b.toNat).2.2 (t.take ((cls b.toNat).1-1)) with
   |none=>(-1,1)
   |some v=>if v<(cls b.toNat).2.1∨1114111<v∨(55296≤v∧v<57344) then (-1,1) else (v,(cls b.toNat).1)
theorem YdJ {n a b c d:Nat} (h:(128≤a∧a<194)∨(245≤a∧a<256)):Lib.decodeN n a b c d=(65533,1):=by
 unfold Lib.decodeN
 repeat' split
 all_goals first|(exfalso;omega)|rfl
theorem YcJ {n a b c d:Nat} (h:194≤a∧a<224):Lib.decodeN n a b c d=if 1<n∧b / 64=2 then (a % 32*64+b % 64,2) else (65533,1):=by
 unfold Lib.decodeN
 repeat' split
 all_goals first|(exfalso;omega)|rfl
theorem YcK {n a b c d:Nat} (h:224≤a∧a<240):Lib.decodeN n a b c d=if (1<n∧b / 64=2)∧(2<n∧c / 64=2)∧2048≤a % 16*4096+b % 64*64+c % 64∧(a % 16*4096+b % 64*64+c % 64<55296∨57344≤a % 16*4096+b % 64*64+c % 64) then (a % 16*4096+b % 64*64+c % 64,3) else (65533,1):=by
 unfold Lib.decodeN
 repeat' split
 all_goals first|(exfalso;omega)|rfl
theorem Yb9 {n a b c d:Nat} (h:240≤a∧a<245):Lib.decodeN n a b c d=if (1<n∧b / 64=2)∧(2<n∧c / 64=2)∧(3<n∧d / 64=2)∧65536≤a % 8*262144+b % 64*4096+c % 64*64+d % 64∧a % 8*262144+b % 64*4096+c % 64*64+d % 64≤1114111 then (a % 8*262144+b % 64*4096+c % 64*64+d % 64,4) else (65533,1):=by
 unfold Lib.decodeN
 repeat' split
 all_goals first|(exfalso;omega)|rfl
theorem YdK {n a b c d:Nat} (h:a<128):Lib.decodeN n a b c d=(a,1):=by
 unfold Lib.decodeN;rw[Gl h]
theorem YaG {b:UInt8}:(b.toNat<128∨191<b.toNat)↔¬b.toNat / 64=2:=by omega
theorem Yal {l:List UInt8} (h:l≠[]):YJ l=if dN l=(65533,1) then (-1,1) else (((dN l).1:Int),((dN l).2:Int)):=by
 obtain⟨b0,t,rfl⟩:=List.exists_cons_of_ne_nil h;have l0:=b0.toNat_lt;have e0:(b0::t).getD 0 0=b0:=rfl;have e1:(b0::t).getD 1 0=t.getD 0 0:=rfl;have e2:(b0::t).getD 2 0=t.getD 1 0:=rfl;have e3:(b0::t).getD 3 0=t.getD 2 0:=rfl;simp only[YJ,dN,e0,e1,e2,e3,List.length_cons];by_cases c1:b0.toNat<128
 ·rw[Gl c1,YdK c1,Gj (by intro e;simp at e;omega)];rfl
 rw[Gj c1];by_cases c2:194≤b0.toNat∧b0.toNat<224
 ·rw[YcJ c2,show cls b0.toNat=(2,128,(b0.toNat:Int)-192) from Gl (by omega)]
  match t with
  |[]=>simp
  |b1::t=>
   have l1:=b1.toNat_lt;simp only[Gad,List.length_cons,List.take_succ_cons,List.take_zero,Yr,YaG];by_cases d1:b1.toNat / 64=2
   ·have e:(1<t.length+1+1∧b1.toNat / 64=2):=⟨by omega,d1⟩;simp only[d1,e];simp
    repeat' split
    all_goals first|(exfalso;omega)|(simp;omega)|omega
   ·simp[d1]
 by_cases c3:224≤b0.toNat∧b0.toNat<240
 ·rw[YcK c3,show cls b0.toNat=(3,2048,(b0.toNat:Int)-224) from by rw[cls,Gj (by omega),Gl (by omega)]]
  match t with
  |[]=>simp
  |[b1]=>simp
  |b1::b2::t=>
   have l1:=b1.toNat_lt;have l2:=b2.toNat_lt;simp only[Gad,List.getD_cons_succ,List.length_cons,List.take_succ_cons,List.take_zero,Yr,YaG];by_cases d1:b1.toNat / 64=2
   ·by_cases d2:b2.toNat / 64=2
    ·have hv:64*(64*((b0.toNat:Int)-224)+b1.toNat-128)+b2.toNat-128=((b0.toNat % 16*4096+b1.toNat % 64*64+b2.toNat % 64:Nat):Int):=by omega
     have hn:¬(3=0∨t.length+1+1+1<3):=by omega
     simp only[d1,d2,not_true_eq_false,GD,hv,hn];obtain⟨v,hve,hvb⟩:∃v,b0.toNat % 16*4096+b1.toNat % 64*64+b2.toNat % 64=v∧v<65536:=⟨_,rfl,by omega⟩;rw[hve];by_cases c:2048≤v∧(v<55296∨57344≤v)
     ·have hD:(if (1<t.length+1+1+1∧True)∧(2<t.length+1+1+1∧True)∧2048≤v∧(v<55296∨57344≤v) then (v,3) else ((65533,1):Nat×Nat))=(v,3):=Gl ⟨⟨by omega,Gn⟩,⟨by omega,Gn⟩,c.1,c.2⟩;rw[hD,Gj (by omega),Gj (by intro e;simp at e)]
     ·have hD:(if (1<t.length+1+1+1∧True)∧(2<t.length+1+1+1∧True)∧2048≤v∧(v<55296∨57344≤v) then (v,3) else ((65533,1):Nat×Nat))=(65533,1):=Gj (fun e=>c ⟨e.2.2.1,e.2.2.2⟩);rw[hD,Gl (by omega),Gl rfl]
    ·simp[d1,d2]
   ·simp[d1]
 by_cases c4:240≤b0.toNat∧b0.toNat<245
 ·rw[Yb9 c4,show cls b0.toNat=(4,65536,(b0.toNat:Int)-240) from by rw[cls,Gj (by omega),Gj (by omega),Gl (by omega)]]
  match t with
  |[]=>simp
  |[b1]=>simp
  |[b1,b2]=>simp
  |b1::b2::b3::t=>
   have l1:=b1.toNat_lt;have l2:=b2.toNat_lt;have l3:=b3.toNat_lt;simp only[Gad,List.getD_cons_succ,List.length_cons,List.take_succ_cons,List.take_zero,Yr,YaG];by_cases d1:b1.toNat / 64=2
   ·by_cases d2:b2.toNat / 64=2
    ·by_cases d3:b3.toNat / 64=2
     ·have hv:64*(64*(64*((b0.toNat:Int)-240)+b1.toNat-128)+b2.toNat-128)+b3.toNat-128=((b0.toNat % 8*262144+b1.toNat % 64*4096+b2.toNat % 64*64+b3.toNat % 64:Nat):Int):=by omega
      have hn:¬(4=0∨t.length+1+1+1+1<4):=by omega
      simp only[d1,d2,d3,not_true_eq_false,GD,hv,hn];obtain⟨v,hve⟩:∃v,b0.toNat % 8*262144+b1.toNat % 64*4096+b2.toNat % 64*64+b3.toNat % 64=v:=⟨_,rfl⟩;rw[hve];by_cases c:65536≤v∧v≤1114111
      ·have hD:(if (1<t.length+1+1+1+1∧True)∧(2<t.length+1+1+1+1∧True)∧(3<t.length+1+1+1+1∧True)∧65536≤v∧v≤1114111 then (v,4) else ((65533,1):Nat×Nat))=(v,4):=Gl ⟨⟨by omega,Gn⟩,⟨by omega,Gn⟩,⟨by omega,Gn⟩,c.1,c.2⟩;rw[hD,Gj (by omega),Gj (by intro e;simp at e)]
      ·have hD:(if (1<t.length+1+1+1+1∧True)∧(2<t.length+1+1+1+1∧True)∧(3<t.length+1+1+1+1∧True)∧65536≤v∧v≤1114111 then (v,4) else ((65533,1):Nat×Nat))=(65533,1):=Gj (fun e=>c ⟨e.2.2.2.1,e.2.2.2.2⟩);rw[hD,Gl (by omega),Gl rfl]
     ·simp[d1,d2,d3]
    ·simp[d1,d2]
   ·simp[d1]
 rw[YdJ (by omega),show cls b0.toNat=(0,0,(b0.toNat:Int)) from by rw[cls,Gj (by omega),Gj (by omega),Gj (by omega)]];simp
theorem Yah {l:List UInt8} (h:l≠[]):dN l=(65533,1)∨(∃b0 t,l=b0::t∧b0.toNat<128∧dN l=(b0.toNat,1))∨
  (∃b0 b1 t,l=b0::b1::t∧(194≤b0.toNat∧b0.toNat<224)∧b1.toNat / 64=2∧dN l=(b0.toNat % 32*64+b1.toNat % 64,2))∨
  (∃b0 b1 b2 t,l=b0::b1::b2::t∧(224≤b0.toNat∧b0.toNat<240)∧b1.toNat / 64=2∧b2.toNat / 64=2∧2048≤b0.toNat % 16*4096+b1.toNat % 64*64+b2.toNat % 64∧dN l=(b0.toNat % 16*4096+b1.toNat % 64*64+b2.toNat % 64,3))∨
  (∃b0 b1 b2 b3 t,l=b0::b1::b2::b3::t∧(240≤b0.toNat∧b0.toNat<245)∧b1.toNat / 64=2∧b2.toNat / 64=2∧b3.toNat / 64=2∧65536≤b0.toNat % 8*262144+b1.toNat % 64*4096+b2.toNat % 64*64+b3.toNat % 64∧dN l=(b0.toNat % 8*262144+b1.toNat % 64*4096+b2.toNat % 64*64+b3.toNat % 64,4)):=by
 obtain⟨b0,t,rfl⟩:=List.exists_cons_of_ne_nil h
 have l0:=b0.toNat_lt
 have e0:(b0::t).getD 0 0=b0:=rfl
 have e1:(b0::t).getD 1 0=t.getD 0 0:=rfl
 have e2:(b0::t).getD 2 0=t.getD 1 0:=rfl
 have e3:(b0::t).getD 3 0=t.getD 2 0:=rfl
 by_cases c1:b0.toNat<128
 ·exact .inr (.inl ⟨b0,t,rfl,c1,by rw[dN,e0,YdK c1]⟩)
 by_cases c2:194≤b0.toNat∧b0.toNat<224
 ·match t with
  |[]=>left;rw[dN,e0,YcJ c2];simp
  |b1::t=>
   by_cases d:b1.toNat / 64=2
   ·exact .inr (.inr (.inl ⟨b0,b1,t,rfl,c2,d,by rw[dN,e0,YcJ c2,Gl ⟨by simp,by simpa [e1] using d⟩];rfl⟩))
   ·left;rw[dN,e0,YcJ c2,Gj (fun e=>d (by simpa [e1] using e.2))]
 by_cases c3:224≤b0.toNat∧b0.toNat<240
 ·match t with
  |[]=>left;rw[dN,e0,YcK c3];simp
  |[b1]=>left;rw[dN,e0,YcK c3];simp
  |b1::b2::t=>
   have g1:(b0::b1::b2::t).getD 1 0=b1:=rfl
   have g2:(b0::b1::b2::t).getD 2 0=b2:=rfl
   rw[dN,e0,g1,g2,YcK c3]
   split
   ·rename_i hc
    exact .inr (.inr (.inr (.inl ⟨b0,b1,b2,t,rfl,c3,hc.1.2,hc.2.1.2,hc.2.2.1,rfl⟩)))
   ·exact .inl rfl
 by_cases c4:240≤b0.toNat∧b0.toNat<245
 ·match t with
  |[]=>left;rw[dN,e0,Yb9 c4];simp
  |[b1]=>left;rw[dN,e0,Yb9 c4];simp
  |[b1,b2]=>left;rw[dN,e0,Yb9 c4];simp
  |b1::b2::b3::t=>
   have g1:(b0::b1::b2::b3::t).getD 1 0=b1:=rfl
   have g2:(b0::b1::b2::b3::t).getD 2 0=b2:=rfl
   have g3:(b0::b1::b2::b3::t).getD 3 0=b3:=rfl
   rw[dN,e0,g1,g2,g3,Yb9 c4]
   split
   ·rename_i hc
    exact .inr (.inr (.inr (.inr ⟨b0,b1,b2,b3,t,rfl,c4,hc.1.2,hc.2.1.2,hc.2.2.1.2,hc.2.2.2.1,rfl⟩)))
   ·exact .inl rfl
 ·left;rw[dN,e0,YdJ (by omega)]
end Sg
namespace Sg
open _root_.Go (IntKind BinOp UnOp)
variable {Pg:PgT}
@[go_sem] theorem YeF {b:UInt8} {t:List UInt8} {k:IntKind}:Jeg (.str (b::t)) (.int k 0)=some (.int .u8 b.toNat):=rfl
@[go_sem high] theorem Yen {s:List UInt8} {z:Nat} {k:IntKind} {n:Nat} (h:n≤s.length):slV true z (.str s) (some (.int k (n:Int))) none=some (.str (s.drop n)):=by
 simp[slV,bound,h]
def H191 (Pg:PgT):Prop:=Pg 191=some (.code F191)
theorem K191 (h:H191 Pg) (r n:Int):K' Pg 191 [.int .i32 r,.int .i64 n]=some (.bool (plainR r n)):=by
 refine JdD h rfl ?_;simp only[go_sem];cases c1:decide (33≤r)<;>cases c2:decide (r<127)<;>cases c3:decide (159<r)<;>cases c4:decide (r=65533)<;>cases c5:decide (n=3) <;>
  simp only[go_sem,plainR,c1,c2,c3,c4,c5]
def Yaw (c:Int):Bool:=decide (32<c)&&(!decide (c=127)&&(decide (c<128)||decide (159<c)))
def H189 (Pg:PgT):Prop:=Pg 189=some (.code F189)
theorem K189 (h:H189 Pg) (c:Int):K' Pg 189 [iz c]=some (.bool (Yaw c)):=by
 refine JdD h rfl ?_;simp only[go_sem];cases c1:decide (32<c)<;>cases c2:decide (c=127)<;>cases c3:decide (c<128)<;>cases c4:decide (159<c) <;>
  simp only[go_sem,Yaw,c1,c2,c3,c4]
theorem Ybr {l:List UInt8} (h:l≠[]):Yaw (YJ l).1=plainR (dN l).1 (dN l).2:=by
 rw[Yal h];by_cases c:dN l=(65533,1)
 ·rw[Gl c,c];decide
 ·rw[Gj c];simp only[Yaw,plainR];have c65:(dN l).1=65533→(dN l).2=3:=fun e=>by
   rcases Yah h with x|⟨a0,t,rfl,q,x⟩|⟨a0,a1,t,rfl,q,q1,x⟩|⟨a0,a1,a2,t,rfl,q,q1,q2,q3,x⟩|⟨a0,a1,a2,a3,t,rfl,q,q1,q2,q3,q4,x⟩
   ·exact absurd x c
   all_goals (rw[x] at e ⊢;try (simp only at e ⊢;try omega))
  generalize (dN l).1=r at c65 ⊢;generalize (dN l).2=n at c65 ⊢;rw[Bool.eq_iff_iff];simp only[Gg,Bool.or_eq_true,Gz,GH,GL];omega
@[go_sem] def eLN (x:Int×Int):V:=.tuple [iz x.1,iz x.2]
def H188 (Pg:PgT):Prop:=Pg 188=some (.code F188)
theorem YZ:∀{l:List UInt8} {a:Int} {b:UInt8},Yr a (l++[b])=(Yr a l).bind fun v=>if b.toNat<128∨191<b.toNat then none else some (64*v+b.toNat-128)
 |[],a,b=>by simp[Yr]
 |c::l,a,b=>by
  simp only[Yr,List.cons_append];split
  ·rfl
  ·exact YZ
theorem YY:∀{l k:List UInt8} {a:Int},Yr a l=none→Yr a (l++k)=none
 |[],k,a,h=>by simp[Yr] at h
 |c::l,k,a,h=>by
  simp only[Yr,List.cons_append] at h ⊢;split
  ·rfl
  ·rename_i hc;rw[Gj hc] at h;exact YY h
theorem K188 (h:H188 Pg) (s:List UInt8) (hs:s≠[]):K' Pg 188 [.str s]=some (eLN (YJ s)):=by
 refine JdD h rfl ?_;obtain⟨b0,t,rfl⟩:=List.exists_cons_of_ne_nil hs;have l0:=b0.toNat_lt;have w8:IntKind.i64.wrap (b0.toNat:Int)=b0.toNat:=JmB (by omega) (by omega);have w192:IntKind.i64.wrap ((b0.toNat:Int)-192)=b0.toNat-192:=JmB (by omega) (by omega);have w224:IntKind.i64.wrap ((b0.toNat:Int)-224)=b0.toNat-224:=JmB (by omega) (by omega);have w240:IntKind.i64.wrap ((b0.toNat:Int)-240)=b0.toNat-240:=JmB (by omega) (by omega);simp only[go_sem,w8];refine JmE (fun c1=>?_) (fun c1=>?_)
 ·have c1:=Ge c1;have e:YJ (b0::t)=((b0.toNat:Int),(1:Int)):=by simp only[YJ];rw[Gl (by omega)]
  rw[e];simp only[go_sem]
 have c1:=Gc c1;have eS:YJ (b0::t)=if (cls b0.toNat).1=0∨(b0::t).length<(cls b0.toNat).1 then (-1,1) else
   match Yr (cls b0.toNat).2.2 (t.take ((cls b0.toNat).1-1)) with
   |none=>(-1,1)
   |some v=>if v<(cls b0.toNat).2.1∨1114111<v∨(55296≤v∧v<57344) then (-1,1) else (v,((cls b0.toNat).1:Int)):=by
  simp only[YJ];rw[Gj (by omega)]<;>rfl
 simp only[go_sem];cases c2:decide (194≤(b0.toNat:Int)) with
 |false=>
  have hcl:cls b0.toNat=(0,0,(b0.toNat:Int)):=by
   have:=Gc c2;rw[cls,Gj (by omega),Gj (by omega),Gj (by omega)]
  have d2:decide (224≤(b0.toNat:Int))=false:=GE (by have:=Gc c2;omega);have d3:decide (240≤(b0.toNat:Int))=false:=GE (by have:=Gc c2;omega);rw[hcl,Gl (.inl rfl)] at eS;rw[eS];simp only[go_sem,d2,d3]
 |true=>
 have c2':=Ge c2;simp only[go_sem];refine JmE (fun c3=>?_) (fun c3=>?_)
 ·have c3:=Ge c3;have hcl:cls b0.toNat=(2,128,(b0.toNat:Int)-192):=Gl (by omega);simp only[go_sem,w192];rw[hcl] at eS;simp only at eS;refine JmE (fun c5=>?_) (fun c5=>?_)
  ·have c5:=Ge c5;rw[Gl (.inr (by simp only[List.length_cons];omega))] at eS;rw[eS];simp only[go_sem]
  have c5:=Gc c5;have c5:2≤t.length+1:=by omega
  rw[Gj (by simp only[List.length_cons];omega)] at eS;simp only[go_sem];unfold l188_0;refine JmD (fun (i:Nat) S=>(1≤i∧i≤2)∧S.ρ 0=.str (b0::t)∧S.ρ 5=iz 2∧S.ρ 6=iz 128∧S.ρ 7=iz i∧∃v,S.ρ 4=iz v∧Yr ((b0.toNat:Int)-192) (t.take (i-1))=some v∧0≤v∧v<64 ^ i) (fun i=>2-i) 1 ?_ ?_
  ·simp[go_sem,Yr];omega
  ·intro i S ⟨hi,h0,h5,h6,h7,v,h4,hv,v0,v1⟩;have v2:v<16777216:=by
    have:i=1∨i=2∨i=3∨i=4:=by omega
    rcases this with rfl|rfl|rfl|rfl<;>simp at v1<;>omega
   simp only[go_sem,h5,h7];refine JmE (fun h=>?_) (fun h=>?_)
   ·have h:i<2:=by have:=Ge h;omega
    obtain⟨b,hb⟩:∃b,(b0::t)[i]?=some b:=⟨_,List.getElem?_eq_getElem (by simp only[List.length_cons];omega)⟩;have hb':t[i-1]?=some b:=by
     obtain⟨k,rfl⟩:∃k,i=k+1:=⟨i-1,by omega⟩;simpa using hb
    have lb:=b.toNat_lt;have hts:t.take (i+1-1)=t.take (i-1)++[b]:=by
     have:=YK hb';rwa [show i-1+1=i+1-1 by omega] at this
    have hsn:=YZ (l:=t.take (i-1)) (a:=((b0.toNat:Int)-192)) (b:=b);rw[hv,Option.bind_some,←hts] at hsn;have wb:IntKind.i64.wrap (b.toNat:Int)=b.toNat:=JmB (by omega) (by omega);have w1:IntKind.i64.wrap (64*v)=64*v:=JmB (by omega) (by omega);have w2:IntKind.i64.wrap (64*v+b.toNat)=64*v+b.toNat:=JmB (by omega) (by omega);have w3:IntKind.i64.wrap (64*v+b.toNat-128)=64*v+b.toNat-128:=JmB (by omega) (by omega);have bad:(b.toNat<128∨191<b.toNat)→YJ (b0::t)=(-1,1):=fun hbad=>by
     rw[Gl hbad] at hsn;have:Yr ((b0.toNat:Int)-192) (t.take (2-1))=none:=by
      have e:t.take (2-1)=t.take (i+1-1)++(t.take (2-1)).drop (i+1-1):=by
       have:=G3 (i+1-1) (t.take (2-1));rw[List.take_take,Gaa (by omega)] at this;exact this.symm
      rw[e];exact YY hsn
     rw[eS,this]
    simp only[go_sem,h0,h7,hb];cases d1:decide ((b.toNat:Int)<128) with
    |true=>
     have:=bad (.inl (by have:=Ge d1;omega));rw[this];simp only[go_sem]
    |false=>
     have d1':=Gc d1;simp only[go_sem,h0,h7,hb];refine JmE (fun d2=>?_) (fun d2=>?_)
     ·have:=bad (.inr (by have:=Ge d2;omega));rw[this];simp only[go_sem]
     ·have d2':=Gc d2;rw[Gj (by omega)] at hsn;simp only[go_sem,h0,h4,h5,h6,h7,hb,wb,w1,w2,w3];refine⟨i+1,by omega,by omega,by rw[YH h (by omega)],_,rfl,hsn,by omega,?_⟩;rw[Int.pow_succ];omega
   ·have h:i=2:=by have:=Gc h;omega
    subst h;have hv:Yr ((b0.toNat:Int)-192) (t.take (2-1))=some v:=hv;rw[hv] at eS;simp only at eS;simp only[go_sem,h4,h6];cases f1:decide (v<128) with
    |true=>
     rw[Gl (.inl (Ge f1))] at eS;rw[eS];simp only[go_sem]
    |false=>
    cases f2:decide (1114111<v) with
    |true=>
     rw[Gl (.inr (.inl (Ge f2)))] at eS;rw[eS];simp only[go_sem,f2,h4]
    |false=>
    have f1':=Gc f1;have f2':=Gc f2;cases f3:decide (55296≤v) with
    |false=>
     rw[Gj (by have:=Gc f3;omega)] at eS;rw[eS];simp only[go_sem,f2,f3,h4,h5]
    |true=>
    cases f4:decide (v<57344) with
    |true=>
     rw[Gl (.inr (.inr ⟨Ge f3,Ge f4⟩))] at eS;rw[eS];simp only[go_sem,f2,f3,f4,h4]
    |false=>
     rw[Gj (by have:=Gc f4;omega)] at eS;rw[eS];simp only[go_sem,f2,f3,f4,h4,h5]
 have c3:=Gc c3;have d2:decide (224≤(b0.toNat:Int))=true:=GN (by omega);simp only[go_sem,d2];refine JmE (fun c4=>?_) (fun c4=>?_)
 ·have c4:=Ge c4;have hcl:cls b0.toNat=(3,2048,(b0.toNat:Int)-224):=by rw[cls,Gj (by omega),Gl (by omega)]
  simp only[go_sem,w224];rw[hcl] at eS;simp only at eS;refine JmE (fun c5=>?_) (fun c5=>?_)
  ·have c5:=Ge c5;rw[Gl (.inr (by simp only[List.length_cons];omega))] at eS;rw[eS];simp only[go_sem]
  have c5:=Gc c5;have c5:3≤t.length+1:=by omega
  rw[Gj (by simp only[List.length_cons];omega)] at eS;simp only[go_sem];unfold l188_0;refine JmD (fun (i:Nat) S=>(1≤i∧i≤3)∧S.ρ 0=.str (b0::t)∧S.ρ 5=iz 3∧S.ρ 6=iz 2048∧S.ρ 7=iz i∧∃v,S.ρ 4=iz v∧Yr ((b0.toNat:Int)-224) (t.take (i-1))=some v∧0≤v∧v<64 ^ i) (fun i=>3-i) 1 ?_ ?_
  ·simp[go_sem,Yr];omega
  ·intro i S ⟨hi,h0,h5,h6,h7,v,h4,hv,v0,v1⟩;have v2:v<16777216:=by
    have:i=1∨i=2∨i=3∨i=4:=by omega
    rcases this with rfl|rfl|rfl|rfl<;>simp at v1<;>omega
   simp only[go_sem,h5,h7];refine JmE (fun h=>?_) (fun h=>?_)
   ·have h:i<3:=by have:=Ge h;omega
    obtain⟨b,hb⟩:∃b,(b0::t)[i]?=some b:=⟨_,List.getElem?_eq_getElem (by simp only[List.length_cons];omega)⟩;have hb':t[i-1]?=some b:=by
     obtain⟨k,rfl⟩:∃k,i=k+1:=⟨i-1,by omega⟩;simpa using hb
    have lb:=b.toNat_lt;have hts:t.take (i+1-1)=t.take (i-1)++[b]:=by
     have:=YK hb';rwa [show i-1+1=i+1-1 by omega] at this
    have hsn:=YZ (l:=t.take (i-1)) (a:=((b0.toNat:Int)-224)) (b:=b);rw[hv,Option.bind_some,←hts] at hsn;have wb:IntKind.i64.wrap (b.toNat:Int)=b.toNat:=JmB (by omega) (by omega);have w1:IntKind.i64.wrap (64*v)=64*v:=JmB (by omega) (by omega);have w2:IntKind.i64.wrap (64*v+b.toNat)=64*v+b.toNat:=JmB (by omega) (by omega);have w3:IntKind.i64.wrap (64*v+b.toNat-128)=64*v+b.toNat-128:=JmB (by omega) (by omega);have bad:(b.toNat<128∨191<b.toNat)→YJ (b0::t)=(-1,1):=fun hbad=>by
     rw[Gl hbad] at hsn;have:Yr ((b0.toNat:Int)-224) (t.take (3-1))=none:=by
      have e:t.take (3-1)=t.take (i+1-1)++(t.take (3-1)).drop (i+1-1):=by
       have:=G3 (i+1-1) (t.take (3-1));rw[List.take_take,Gaa (by omega)] at this;exact this.symm
      rw[e];exact YY hsn
     rw[eS,this]
    simp only[go_sem,h0,h7,hb];cases d1:decide ((b.toNat:Int)<128) with
    |true=>
     have:=bad (.inl (by have:=Ge d1;omega));rw[this];simp only[go_sem]
    |false=>
     have d1':=Gc d1;simp only[go_sem,h0,h7,hb];refine JmE (fun d2=>?_) (fun d2=>?_)
     ·have:=bad (.inr (by have:=Ge d2;omega));rw[this];simp only[go_sem]
     ·have d2':=Gc d2;rw[Gj (by omega)] at hsn;simp only[go_sem,h0,h4,h5,h6,h7,hb,wb,w1,w2,w3];refine⟨i+1,by omega,by omega,by rw[YH h (by omega)],_,rfl,hsn,by omega,?_⟩;rw[Int.pow_succ];omega
   ·have h:i=3:=by have:=Gc h;omega
    subst h;have hv:Yr ((b0.toNat:Int)-224) (t.take (3-1))=some v:=hv;rw[hv] at eS;simp only at eS;simp only[go_sem,h4,h6];cases f1:decide (v<2048) with
    |true=>
     rw[Gl (.inl (Ge f1))] at eS;rw[eS];simp only[go_sem]
    |false=>
    cases f2:decide (1114111<v) with
    |true=>
     rw[Gl (.inr (.inl (Ge f2)))] at eS;rw[eS];simp only[go_sem,f2,h4]
    |false=>
    have f1':=Gc f1;have f2':=Gc f2;cases f3:decide (55296≤v) with
    |false=>
     rw[Gj (by have:=Gc f3;omega)] at eS;rw[eS];simp only[go_sem,f2,f3,h4,h5]
    |true=>
    cases f4:decide (v<57344) with
    |true=>
     rw[Gl (.inr (.inr ⟨Ge f3,Ge f4⟩))] at eS;rw[eS];simp only[go_sem,f2,f3,f4,h4]
    |false=>
     rw[Gj (by have:=Gc f4;omega)] at eS;rw[eS];simp only[go_sem,f2,f3,f4,h4,h5]
 have c4:=Gc c4;have d3:decide (240≤(b0.toNat:Int))=true:=GN (by omega);simp only[go_sem,d3];refine JmE (fun c6=>?_) (fun c6=>?_)
 ·have c6:=Ge c6;have hcl:cls b0.toNat=(4,65536,(b0.toNat:Int)-240):=by rw[cls,Gj (by omega),Gj (by omega),Gl (by omega)]
  simp only[go_sem,w240];rw[hcl] at eS;simp only at eS;refine JmE (fun c5=>?_) (fun c5=>?_)
  ·have c5:=Ge c5;rw[Gl (.inr (by simp only[List.length_cons];omega))] at eS;rw[eS];simp only[go_sem]
  have c5:=Gc c5;have c5:4≤t.length+1:=by omega
  rw[Gj (by simp only[List.length_cons];omega)] at eS;simp only[go_sem];unfold l188_0;refine JmD (fun (i:Nat) S=>(1≤i∧i≤4)∧S.ρ 0=.str (b0::t)∧S.ρ 5=iz 4∧S.ρ 6=iz 65536∧S.ρ 7=iz i∧∃v,S.ρ 4=iz v∧Yr ((b0.toNat:Int)-240) (t.take (i-1))=some v∧0≤v∧v<64 ^ i) (fun i=>4-i) 1 ?_ ?_
  ·simp[go_sem,Yr];omega
  ·intro i S ⟨hi,h0,h5,h6,h7,v,h4,hv,v0,v1⟩;have v2:v<16777216:=by
    have:i=1∨i=2∨i=3∨i=4:=by omega
    rcases this with rfl|rfl|rfl|rfl<;>simp at v1<;>omega
   simp only[go_sem,h5,h7];refine JmE (fun h=>?_) (fun h=>?_)
   ·have h:i<4:=by have:=Ge h;omega
    obtain⟨b,hb⟩:∃b,(b0::t)[i]?=some b:=⟨_,List.getElem?_eq_getElem (by simp only[List.length_cons];omega)⟩;have hb':t[i-1]?=some b:=by
     obtain⟨k,rfl⟩:∃k,i=k+1:=⟨i-1,by omega⟩;simpa using hb
    have lb:=b.toNat_lt;have hts:t.take (i+1-1)=t.take (i-1)++[b]:=by
     have:=YK hb';rwa [show i-1+1=i+1-1 by omega] at this
    have hsn:=YZ (l:=t.take (i-1)) (a:=((b0.toNat:Int)-240)) (b:=b);rw[hv,Option.bind_some,←hts] at hsn;have wb:IntKind.i64.wrap (b.toNat:Int)=b.toNat:=JmB (by omega) (by omega);have w1:IntKind.i64.wrap (64*v)=64*v:=JmB (by omega) (by omega);have w2:IntKind.i64.wrap (64*v+b.toNat)=64*v+b.toNat:=JmB (by omega) (by omega);have w3:IntKind.i64.wrap (64*v+b.toNat-128)=64*v+b.toNat-128:=JmB (by omega) (by omega);have bad:(b.toNat<128∨191<b.toNat)→YJ (b0::t)=(-1,1):=fun hbad=>by
     rw[Gl hbad] at hsn;have:Yr ((b0.toNat:Int)-240) (t.take (4-1))=none:=by
      have e:t.take (4-1)=t.take (i+1-1)++(t.take (4-1)).drop (i+1-1):=by
       have:=G3 (i+1-1) (t.take (4-1));rw[List.take_take,Gaa (by omega)] at this;exact this.symm
      rw[e];exact YY hsn
     rw[eS,this]
    simp only[go_sem,h0,h7,hb];cases d1:decide ((b.toNat:Int)<128) with
    |true=>
     have:=bad (.inl (by have:=Ge d1;omega));rw[this];simp only[go_sem]
    |false=>
     have d1':=Gc d1;simp only[go_sem,h0,h7,hb];refine JmE (fun d2=>?_) (fun d2=>?_)
     ·have:=bad (.inr (by have:=Ge d2;omega));rw[this];simp only[go_sem]
     ·have d2':=Gc d2;rw[Gj (by omega)] at hsn;simp only[go_sem,h0,h4,h5,h6,h7,hb,wb,w1,w2,w3];refine⟨i+1,by omega,by omega,by rw[YH h (by omega)],_,rfl,hsn,by omega,?_⟩;rw[Int.pow_succ];omega
   ·have h:i=4:=by have:=Gc h;omega
    subst h;have hv:Yr ((b0.toNat:Int)-240) (t.take (4-1))=some v:=hv;rw[hv] at eS;simp only at eS;simp only[go_sem,h4,h6];cases f1:decide (v<65536) with
    |true=>
     rw[Gl (.inl (Ge f1))] at eS;rw[eS];simp only[go_sem]
    |false=>
    cases f2:decide (1114111<v) with
    |true=>
     rw[Gl (.inr (.inl (Ge f2)))] at eS;rw[eS];simp only[go_sem,f2,h4]
    |false=>
    have f1':=Gc f1;have f2':=Gc f2;cases f3:decide (55296≤v) with
    |false=>
     rw[Gj (by have:=Gc f3;omega)] at eS;rw[eS];simp only[go_sem,f2,f3,h4,h5]
    |true=>
    cases f4:decide (v<57344) with
    |true=>
     rw[Gl (.inr (.inr ⟨Ge f3,Ge f4⟩))] at eS;rw[eS];simp only[go_sem,f2,f3,f4,h4]
    |false=>
     rw[Gj (by have:=Gc f4;omega)] at eS;rw[eS];simp only[go_sem,f2,f3,f4,h4,h5]
 have c6:=Gc c6;have hcl:cls b0.toNat=(0,0,(b0.toNat:Int)):=by rw[cls,Gj (by omega),Gj (by omega),Gj (by omega)]
 rw[hcl,Gl (.inl rfl)] at eS;rw[eS];simp only[go_sem]
theorem YaK {l:List UInt8} (h:l≠[]):(YJ l).2=((dN l).2:Int):=by
 rw[Yal h];by_cases c:dN l=(65533,1)
 ·rw[Gl c,c];rfl
 ·rw[Gj c]
theorem YaV {l:List UInt8} (h:l≠[]):(dN l).2≤l.length:=by
 rcases Yah h with x|⟨a0,t,rfl,q,x⟩|⟨a0,a1,t,rfl,q,q1,x⟩|⟨a0,a1,a2,t,rfl,q,q1,q2,q3,x⟩|⟨a0,a1,a2,a3,t,rfl,q,q1,q2,q3,q4,x⟩
 ·rw[x];have:=Gac.2 h;simp only;omega
 all_goals rw[x];simp
theorem Yad {l:List UInt8}:decide ((0:Int)<(l.length:Int))=!decide (l=[]):=by
 cases l<;>simp
@[go_sem] def Yd (l:List Int):V:=.slice 1 (l.map fun a=>[iz a])
def SetP (l:List Int):Prop:=l.length≤8∧(∀m∈l,1≤m∧m≤255)∧l.Nodup
instance (l:List Int):Decidable (SetP l):=inferInstanceAs (Decidable (_∧_∧_))
theorem u8w {n:Nat}:IntKind.u8.wrap (n:Int)=((n % 256:Nat):Int):=by simp[IntKind.wrap,IntKind.bits,IntKind.signed]
def YcP:List UInt8:=[48,49,50,51,52,53,54,55,56,57,65,66,67,68,69,70]
def YO (n:Nat):UInt8:=YcP.getD n 0
def YS (b:UInt8):List UInt8:=[37,YO (b.toNat / 16),YO (b.toNat % 16)]
def Yl (b:UInt8):Nat:=if 48≤b.toNat∧b.toNat≤57 then b.toNat-48 else if 65≤b.toNat∧b.toNat≤70 then b.toNat-55 else 99
theorem YbV (b:UInt8):b.toNat<256:=b.toNat_lt
def H668 (Pg:PgT):Prop:=Pg 668=some (.code F668)
theorem K668 (h:H668 Pg) (b:UInt8):K' Pg 668 [.int .u8 b.toNat]=some (iz (Yl b)):=by
 have hb:=YbV b;have w0:IntKind.i64.wrap (b.toNat:Int)=b.toNat:=JmB (by omega) (by omega);refine JdD h rfl ?_;cases c1:decide ((48:Int)≤(b.toNat:Int)) with
 |true=>
  have c1':=Ge c1;cases c2:decide ((b.toNat:Int)≤57) with
  |true=>
   have c2':=Ge c2;have e:Yl b=b.toNat-48:=by unfold Yl;rw[Gl (by omega)]
   have w1:IntKind.i64.wrap ((b.toNat:Int)-48)=((b.toNat-48:Nat):Int):=by rw[JmB (by omega) (by omega)];omega
   simp only[F668,c668,go_sem,c1,c2,w0,w1,e]
  |false=>
   have c2':=Gc c2;cases c3:decide ((65:Int)≤(b.toNat:Int)) with
   |false=>
    have c3':=Gc c3;have e:Yl b=99:=by unfold Yl;rw[Gj (by omega),Gj (by omega)]
    simp only[F668,c668,go_sem,c1,c2,c3,w0,e]
   |true=>
    cases c4:decide ((b.toNat:Int)≤70) with
    |true=>
     have c3':=Ge c3;have c4':=Ge c4;have e:Yl b=b.toNat-55:=by unfold Yl;rw[Gj (by omega),Gl (by omega)]
     have w1:IntKind.i64.wrap ((b.toNat:Int)-65)=(b.toNat:Int)-65:=JmB (by omega) (by omega);have w2:IntKind.i64.wrap ((b.toNat:Int)-65+10)=((b.toNat-55:Nat):Int):=by rw[JmB (by omega) (by omega)];omega
     simp only[F668,c668,go_sem,c1,c2,c3,c4,w0,w1,w2,e]
    |false=>
     have c4':=Gc c4;have e:Yl b=99:=by unfold Yl;rw[Gj (by omega),Gj (by omega)]
     simp only[F668,c668,go_sem,c1,c2,c3,c4,w0,e]
 |false=>
  have c1':=Gc c1;have c3:decide ((65:Int)≤(b.toNat:Int))=false:=GE (by omega);have e:Yl b=99:=by unfold Yl;rw[Gj (by omega),Gj (by omega)]
  simp only[F668,c668,go_sem,c1,c3,w0,e]
theorem YbH:∀k:Fin 16,List.drop k.1 ((48:UInt8)::List.take k.1 [49,50,51,52,53,54,55,56,57,65,66,67,68,69,70])=[YO k.1]:=by decide
def H680 (Pg:PgT):Prop:=Pg 680=some (.code F680)
theorem K680 (h:H680 Pg) (b:UInt8):K' Pg 680 [.int .u8 b.toNat]=some (.str (YS b)):=by
 have hb:=YbV b;have q1:IntKind.u8.wrap ((b.toNat:Int).tdiv 16)=((b.toNat / 16:Nat):Int):=by
  rw[show (b.toNat:Int).tdiv 16=((b.toNat / 16:Nat):Int) from rfl,u8w];omega
 have q2:IntKind.u8.wrap (((b.toNat / 16:Nat):Int)+1)=((b.toNat / 16+1:Nat):Int):=by
  rw[show ((b.toNat / 16:Nat):Int)+1=((b.toNat / 16+1:Nat):Int) by omega,u8w];omega
 have q3:(b.toNat:Int).tmod 16=((b.toNat % 16:Nat):Int):=rfl;have q4:IntKind.u8.wrap (((b.toNat % 16:Nat):Int)+1)=((b.toNat % 16+1:Nat):Int):=by
  rw[show ((b.toNat % 16:Nat):Int)+1=((b.toNat % 16+1:Nat):Int) by omega,u8w];omega
 have s1:=YbH ⟨b.toNat / 16,by omega⟩;have s2:=YbH ⟨b.toNat % 16,by omega⟩;have g1:(b.toNat / 16≤15)=True:=eq_true (by omega);have g2:(b.toNat % 16≤15)=True:=eq_true (by omega);refine JdD h rfl ?_;simp only at s1 s2;simp only[F680,c680,go_sem,q1,q2,q3,q4,g1,g2,s1,s2]
 rfl
def plL (l:List UInt8):Bool:=Yaw (YJ l).1&&!decide ((YJ l).1=37)
def YM (l:List UInt8):List UInt8:=if plL l=true then l.take (dN l).2 else (l.take (dN l).2).flatMap YS
def Ybs:Nat→List UInt8→List UInt8
 |0,_=>[]
 |f+1,l=>if l=[] then [] else YM l++Ybs f (l.drop (dN l).2)
def shw (l:List UInt8):List UInt8:=Ybs l.length l
def YQ (l:List UInt8):List UInt8:=if l=[] then [37] else shw l
theorem YbR:∀(f g:Nat) (l:List UInt8),l.length≤f→l.length≤g→Ybs f l=Ybs g l
 |0,g,l,h,_=>by
  have:l=[]:=List.length_eq_zero_iff.1 (by omega);subst this;cases g<;>simp[Ybs]
 |f+1,0,l,_,h=>by
  have:l=[]:=List.length_eq_zero_iff.1 (by omega);subst this;simp[Ybs]
 |f+1,g+1,l,h1,h2=>by
  unfold Ybs;by_cases hn:l=[]
  ·rw[Gl hn,Gl hn]
  ·have:=YD hn;rw[Gj hn,Gj hn,YbR f g _ (by omega) (by omega)]
theorem YbS:shw []=[]:=rfl
theorem Ybt {l:List UInt8} (hn:l≠[]):shw l=YM l++shw (l.drop (dN l).2):=by
 have:=YD hn;obtain⟨k,hk⟩:∃k,l.length=k+1:=⟨l.length-1,by have:=Gac.2 hn;omega⟩;unfold shw;rw[hk]
 show (if l=[] then [] else YM l++Ybs k (l.drop (dN l).2))=_
 rw[Gj hn,YbR k _ _ (by omega) (Gm _)]
theorem YaI (b:UInt8):(YS b).length=3:=rfl
theorem Yak (l:List UInt8):(l.flatMap YS).length=3*l.length:=by
 induction l with
 |nil=>rfl
 |cons b l ih=>rw[List.flatMap_cons,Gk,ih,YaI,List.length_cons];omega
theorem Yb5 {l:List UInt8} {i:Nat} {b:UInt8} (h:l[i]?=some b):(l.take (i+1)).flatMap YS=(l.take i).flatMap YS++YS b:=by
 have:l.take (i+1)=l.take i++[b]:=by rw[GW,h];rfl
 rw[this,List.flatMap_append];simp
theorem Ybn (h680:H680 Pg) {l acc:List UInt8} {n:Nat} {S:St} {Q:Ex→St→Prop} (r0:S.ρ 0=.str l) (r3:S.ρ 3=.str acc) (r5:S.ρ 5=iz n) (r6:S.ρ 6=iz 0) (hn:n≤l.length) (hb:acc.length+3*l.length≤2 ^ 60)
  (hQ:∀S',S'.ρ 0=.str l→S'.ρ 3=.str (acc++(l.take n).flatMap YS)→S'.ρ 5=iz n→Q (.exit 2) S'):Wp (K' Pg) l669_1 S Q:=by
 unfold l669_1
 refine JmD (fun (i:Nat) S=>i≤n∧S.ρ 0=.str l∧S.ρ 3=.str (acc++(l.take i).flatMap YS)∧S.ρ 5=iz n∧S.ρ 6=iz i) (fun i=>n-i) 0 ?_ ?_
 ·exact⟨G1 _,by simp[go_sem,r0],by simp[go_sem,r3],by simp[go_sem,r5],by simp[go_sem,r6]⟩
 ·intro i S ⟨hi,s0,s3,s5,s6⟩
  cases c1:decide ((i:Int)<(n:Int)) with
  |false=>
   have e:i=n:=by have:=Gc c1;omega
   subst e
   simp only[b669_1,go_sem,s0,s3,s5,s6,c1]
   exact hQ _ (by simp only[go_sem,s0]) (by simp only[go_sem,s3]) (by simp only[go_sem,s5])
  |true=>
   have hlt:i<n:=by have:=Ge c1;omega
   obtain⟨b,hb'⟩:∃b,l[i]?=some b:=⟨l[i]'(by omega),List.getElem?_eq_getElem _⟩
   have k:=K680 h680 b
   have hinc:=inc64q (i:=i) (by omega)
   have l3:(acc.length+((l.take i).flatMap YS).length+(YS b).length≤4611686018427387904)=True:=eq_true (by rw[Yak,YaI,Gy];omega)
   simp only[b669_1,go_sem,s0,s3,s5,s6,c1,hb',k,hinc,Gk,l3]
   exact⟨i+1,by omega,by omega,by rw[Yb5 hb',←GG];exact⟨rfl,rfl⟩⟩
def H669 (Pg:PgT):Prop:=Pg 669=some (.code F669)∧H188 Pg∧H189 Pg∧H680 Pg
theorem K669 (h:H669 Pg) (s:List UInt8) (hs:s.length≤2 ^ 40):K' Pg 669 [.str s]=some (.str (YQ s)):=by
 obtain⟨h,h188,h189,h680⟩:=h;refine JdD h rfl ?_;by_cases h0:s=[]
 ·subst h0;simp only[F669,c669,go_sem,List.length_nil,YQ,Gx]
 have c0:decide ((s.length:Int)=0)=false:=GE (by have:=Gac.2 h0;omega);simp only[F669,c669,go_sem,c0];unfold l669_0;refine JmD (fun (l:List UInt8) S=>∃acc:List UInt8,S.ρ 0=.str l∧S.ρ 3=.str acc∧acc++shw l=shw s∧acc.length+3*l.length≤3*s.length) (fun l=>l.length) s ?_ ?_
 ·exact⟨[],by simp[go_sem]⟩
 ·intro l S ⟨acc,r0,r3,hacc,hlen⟩;by_cases hn:l=[]
  ·subst hn;rw[YbS,GI] at hacc;simp only[b669_0,go_sem,r0,r3,Yad,decide_true,Bool.not_true];rw[hacc,YQ,Gj h0]
  ·have k1:=K188 h188 l hn;have k2:=K189 h189 (YJ l).1;rw[show YJ l=((YJ l).1,((dN l).2:Int)) from Prod.ext rfl (YaK hn)] at k1;simp only[eLN] at k1;have hle:=YaV hn;have hd:=YD hn;have hsc:=Ybt hn;have l1:((dN l).2≤l.length)=True:=eq_true hle;have l2:(l.take (dN l).2).length=(dN l).2:=by rw[Gy];omega
   have l3:(acc.length+(dN l).2≤4611686018427387904)=True:=eq_true (by omega);have hdl:(l.drop (dN l).2).length=l.length-(dN l).2:=Gu ..;cases p1:Yaw (YJ l).1 with
   |true=>
    rw[p1] at k2;cases p2:decide ((YJ l).1=37) with
    |false=>
     have hp:YM l=l.take (dN l).2:=by unfold YM plL;rw[p1,p2];rfl
     simp only[b669_0,go_sem,r0,r3,Yad,hn,decide_false,Bool.not_false,k1,k2,p2,l1,l2,l3,List.drop_zero];exact⟨_,hd,_,rfl,rfl,by rw[←hacc,hsc,hp,GG],by rw[Gk,l2,hdl];omega⟩
    |true=>
     have hp:YM l=(l.take (dN l).2).flatMap YS:=by unfold YM plL;rw[p1,p2];rfl
     simp only[b669_0,go_sem,r0,r3,Yad,hn,decide_false,Bool.not_false,k1,k2,p2];refine Ybn h680 (l:=l) (acc:=acc) (n:=(dN l).2) (by simp only[go_sem,r0]) (by simp only[go_sem,r3]) (by simp only[go_sem]) (by simp only[go_sem]) hle (by omega) fun S' q0 q3 q5=>?_;simp only[go_sem,q0,q3,q5,l1];exact⟨_,hd,_,rfl,rfl,by rw[←hacc,hsc,hp,GG],by rw[Gk,Yak,l2,hdl];omega⟩
   |false=>
     rw[p1] at k2;have hp:YM l=(l.take (dN l).2).flatMap YS:=by unfold YM plL;rw[p1];rfl
     simp only[b669_0,go_sem,r0,r3,Yad,hn,decide_false,Bool.not_false,k1,k2];refine Ybn h680 (l:=l) (acc:=acc) (n:=(dN l).2) (by simp only[go_sem,r0]) (by simp only[go_sem,r3]) (by simp only[go_sem]) (by simp only[go_sem]) hle (by omega) fun S' q0 q3 q5=>?_;simp only[go_sem,q0,q3,q5,l1];exact⟨_,hd,_,rfl,rfl,by rw[←hacc,hsc,hp,GG],by rw[Gk,Yak,l2,hdl];omega⟩
def readR:List UInt8→Option (List UInt8)
 |[]=>some []
 |b::l=>if b=37 then match l with
   |x::y::r=>if Yl x=99∨Yl y=99 then none else (readR r).map (UInt8.ofNat (16*Yl x+Yl y)::·)
   |_=>none
  else (readR l).map (b::·)
theorem YbQ {b:UInt8} {l:List UInt8} (h:b≠37):readR (b::l)=(readR l).map (b::·):=by
 rcases l with _|⟨x,_|⟨y,r⟩⟩<;>simp only[readR,Gj h]
theorem YbO {l:List UInt8} (h:l.length<2):readR (37::l)=none:=by
 rcases l with _|⟨x,_|⟨y,r⟩⟩
 ·simp[readR]
 ·simp[readR]
 ·simp only[List.length_cons] at h;omega
theorem YbP {x y:UInt8} {r:List UInt8}:readR (37::x::y::r)=if Yl x=99∨Yl y=99 then none else (readR r).map (UInt8.ofNat (16*Yl x+Yl y)::·):=by
 simp only[readR,Gx]
def rdW (w:List UInt8):Option (List UInt8):=if w=[37] then some [] else match readR w with
 |some s=>if s≠[]∧YQ s=w then some s else none
 |none=>none
def eRw (r:Option (List UInt8)):V:=.tuple [.str (r.getD []),.bool r.isSome]
theorem Yd9 {w:List UInt8} {i:Nat} {b:UInt8} (h:w[i]?=some b):(w.take (i+1)).drop i=[b]:=by
 have hl:i<w.length:=(List.getElem?_eq_some_iff.1 h).1;have:w.take (i+1)=w.take i++[b]:=by rw[GW,h];rfl
 rw[this,List.drop_append_of_le_length (by rw[Gy];omega),List.drop_eq_nil_of_le (by rw[Gy];omega)]
 rfl
theorem YaH {w:List UInt8} {i:Nat} {b:UInt8} (h:w[i]?=some b):w.drop i=b::w.drop (i+1):=by
 have hl:i<w.length:=(List.getElem?_eq_some_iff.1 h).1;rw[GR hl]
 congr 1
 rw[List.getElem?_eq_getElem hl] at h;exact Option.some.inj h
theorem Yas {b:UInt8} (h:Yl b≠99):Yl b<16:=by
 unfold Yl at h ⊢;split
 ·omega
 ·split
  ·omega
  ·rename_i h1 h2;rw[Gj h1,Gj h2] at h;exact absurd rfl h
theorem YaB {o:Option (List UInt8)} {acc:List UInt8} {b:UInt8}:(o.map (b::·)).map (acc++·)=o.map ((acc++[b])++·):=by
 cases o<;>simp
def H658 (Pg:PgT):Prop:=Pg 658=some (.code F658)∧H668 Pg∧H669 Pg
theorem K658 (h:H658 Pg) (w:List UInt8) (hw:w.length≤2 ^ 40):K' Pg 658 [.str w]=some (eRw (rdW w)):=by
 obtain⟨h,h668,h669⟩:=h;refine JdD h rfl ?_;cases c0:decide (w=[37]) with
 |true=>
  have e:rdW w=some []:=by unfold rdW;rw[Gl (Ge c0)]
  simp only[F658,c658,go_sem,c0,e,eRw,Option.isSome_some]
 |false=>
 have hne:=Gc c0;simp only[F658,c658,go_sem,c0];unfold l658_0;refine JmD (fun (i:Nat) S=>i≤w.length∧S.ρ 0=.str w∧S.ρ 5=iz i∧∃acc:List UInt8,S.ρ 4=.str acc∧(readR (w.drop i)).map (acc++·)=readR w∧acc.length≤i) (fun i=>w.length-i) 0 ?_ ?_
 ·exact⟨G1 _,by simp[go_sem],by simp[go_sem],[],by simp[go_sem]⟩
 ·intro i S ⟨hi,r0,r5,acc,r4,hacc,hl⟩;cases c1:decide ((i:Int)<(w.length:Int)) with
  |false=>
   have e:i=w.length:=by have:=Gc c1;omega
   subst e;have hacc:some acc=readR w:=by rw[←hacc,List.drop_length];simp[readR]
   cases c2:decide ((acc.length:Int)=0) with
   |true=>
    have:acc=[]:=List.length_eq_zero_iff.1 (by have:=Ge c2;omega);subst this;have e:rdW w=none:=by unfold rdW;rw[Gj hne,←hacc];simp
    simp only[b658_0,go_sem,r0,r4,r5,c1,c2,e,eRw,Option.isSome_none]
   |false=>
    have hn:acc≠[]:=by intro e;subst e;simp at c2
    have k:=K669 h669 acc (by omega);cases c3:decide (YQ acc=w) with
    |true=>
     have e:rdW w=some acc:=by unfold rdW;rw[Gj hne,←hacc];simp[hn,Ge c3]
     simp only[b658_0,go_sem,r0,r4,r5,c1,c2,k,c3,e,eRw,Option.isSome_some]
    |false=>
     have e:rdW w=none:=by unfold rdW;rw[Gj hne,←hacc];simp[Gc c3]
     simp only[b658_0,go_sem,r0,r4,r5,c1,c2,k,c3,e,eRw,Option.isSome_none]
  |true=>
   have hlt:i<w.length:=by have:=Ge c1;omega
   obtain⟨b,hb⟩:∃b,w[i]?=some b:=⟨w[i]'hlt,List.getElem?_eq_getElem _⟩;have hd:=YaH hb;rw[hd] at hacc;cases c2:decide ((b.toNat:Int)=37) with
   |false=>
    have hb37:b≠37:=by intro e;subst e;exact Gc c2 rfl
    have hinc:=inc64q (i:=i) (by omega)
    have l1:(i+1≤w.length)=True:=eq_true (by omega);have l2:(acc.length≤4611686018427387903)=True:=eq_true (by omega);have hc:=Yd9 hb;rw[YbQ hb37,YaB] at hacc;simp only[b658_0,go_sem,r0,r4,r5,c1,hb,c2,hinc,l1,hc,l2];exact⟨i+1,by omega,by omega,rfl,_,rfl,hacc,by simp;omega⟩
   |true=>
    have hb37:b=37:=by
     have:=Ge c2;exact UInt8.toNat_inj.1 (by show b.toNat=37;omega)
    subst hb37;have w0:IntKind.i64.wrap ((w.length:Int)-(i:Int))=(w.length:Int)-(i:Int):=JmB (by omega) (by omega);cases c3:decide ((w.length:Int)-(i:Int)<3) with
    |true=>
     have c3':=Ge c3;have e:rdW w=none:=by
      rw[YbO (by rw[Gu];omega)] at hacc;unfold rdW;rw[Gj hne,←hacc];rfl
     simp only[b658_0,go_sem,r0,r4,r5,c1,hb,c2,w0,c3,e,eRw,Option.isSome_none]
    |false=>
     have c3':=Gc c3;obtain⟨x,hx⟩:∃b,w[i+1]?=some b:=⟨w[i+1]'(by omega),List.getElem?_eq_getElem _⟩;obtain⟨y,hy⟩:∃b,w[i+2]?=some b:=⟨w[i+2]'(by omega),List.getElem?_eq_getElem _⟩;have hi1:=inc64q (i:=i) (by omega)
     have hi2:IntKind.i64.wrap ((i:Int)+2)=((i+2:Nat):Int):=by rw[JmB (by omega) (by omega)];omega
     have hi3:IntKind.i64.wrap ((i:Int)+3)=((i+3:Nat):Int):=by rw[JmB (by omega) (by omega)];omega
     have kx:=K668 h668 x;have ky:=K668 h668 y;rw[YaH hx,YaH hy,YbP] at hacc;cases c4:decide ((Yl x:Int)=99) with
     |true=>
      have e:rdW w=none:=by
       rw[Gl (.inl (by have:=Ge c4;omega))] at hacc;unfold rdW;rw[Gj hne,←hacc];rfl
      simp only[b658_0,go_sem,r0,r4,r5,c1,hb,hx,hy,c2,w0,c3,hi1,hi2,kx,ky,c4,e,eRw,Option.isSome_none]
     |false=>
      cases c5:decide ((Yl y:Int)=99) with
      |true=>
       have e:rdW w=none:=by
        rw[Gl (.inr (by have:=Ge c5;omega))] at hacc;unfold rdW;rw[Gj hne,←hacc];rfl
       simp only[b658_0,go_sem,r0,r4,r5,c1,hb,hx,hy,c2,w0,c3,hi1,hi2,kx,ky,c4,c5,e,eRw,Option.isSome_none]
      |false=>
       have x16:Yl x<16:=Yas (by have:=Gc c4;omega);have y16:Yl y<16:=Yas (by have:=Gc c5;omega);rw[Gj (by omega),YaB] at hacc;have m1:IntKind.i64.wrap (16*(Yl x:Int))=16*(Yl x:Int):=JmB (by omega) (by omega);have m2:IntKind.i64.wrap (16*(Yl x:Int)+(Yl y:Int))=((16*Yl x+Yl y:Nat):Int):=by rw[JmB (by omega) (by omega)];omega
       have m3:IntKind.u8.wrap ((16*Yl x+Yl y:Nat):Int)=((16*Yl x+Yl y:Nat):Int):=by rw[u8w];omega
       have l2:(acc.length≤4611686018427387903)=True:=eq_true (by omega);simp only[b658_0,go_sem,r0,r4,r5,c1,hb,hx,hy,c2,w0,c3,hi1,hi2,hi3,kx,ky,c4,c5,m1,m2,m3,Jr,List.replicate,List.set,bytesR,l2];exact⟨i+3,by omega,by omega,rfl,_,rfl,hacc,by simp;omega⟩
theorem Yb0 {w:List UInt8} {i:Nat} {b:UInt8} (h:w[i]?=some b):YB 0 (w.take (i+1))=YB 0 (w.take i)*10+(b.toNat-48):=by
 have:w.take (i+1)=w.take i++[b]:=by rw[GW,h];rfl
 rw[this,YaM]
theorem Ybp {w:List UInt8} {S:St} {Q:Ex→St→Prop} (r0:S.ρ 0=.str w) (r3:S.ρ 3=iz 0) (r4:S.ρ 4=iz 0) (hl:w.length≤13)
  (hQ1:w.all YT=true→∀S',S'.ρ 3=iz (YB 0 w:Nat)→Q (.exit 0) S') (hQ2:w.all YT=false→∀S',S'.ρ 2=iz (-1)→Q .ret S'):Wp (K' Pg) l657_0 S Q:=by
 unfold l657_0
 refine JmD (fun (i:Nat) S=>i≤w.length∧(w.take i).all YT=true∧S.ρ 0=.str w∧S.ρ 3=iz (YB 0 (w.take i):Nat)∧S.ρ 4=iz i) (fun i=>w.length-i) 0 ?_ ?_
 ·exact⟨G1 _,rfl,by simp[go_sem,r0],by simp[go_sem,r3,YB],by simp[go_sem,r4]⟩
 ·intro i S ⟨hi,ha,s0,s3,s4⟩
  cases c1:decide ((i:Int)<(w.length:Int)) with
  |false=>
   have e:i=w.length:=by have:=Gc c1;omega
   subst e
   rw[List.take_length] at ha s3
   simp only[b657_0,go_sem,s0,s4,c1]
   exact hQ1 ha _ (by simp only[go_sem,s3])
  |true=>
   have hlt:i<w.length:=by have:=Ge c1;omega
   obtain⟨b,hb⟩:∃b,w[i]?=some b:=⟨w[i]'hlt,List.getElem?_eq_getElem _⟩
   have hv:=YbJ (w.take i) 0 ha
   have h10:10 ^ (w.take i).length≤10 ^ 13:=Nat.pow_le_pow_right (by decide) (by rw[Gy];omega)
   have hbl:=YbV b
   have bad:YT b=false→w.all YT=false:=fun q=>by
    rw[List.all_eq_false];exact⟨b,List.mem_of_getElem? hb,by simp[q]⟩
   cases c2:decide ((b.toNat:Int)<48) with
   |true=>
    simp only[b657_0,go_sem,s0,s4,c1,hb,c2]
    exact hQ2 (bad (by have:=Ge c2;simp only[YT,Bool.and_eq_false_iff,GL];omega)) _ (by simp only[go_sem])
   |false=>
    cases c3:decide ((57:Int)<(b.toNat:Int)) with
    |true=>
     simp only[b657_0,go_sem,s0,s4,c1,hb,c2,c3]
     exact hQ2 (bad (by have:=Ge c3;simp only[YT,Bool.and_eq_false_iff,GL];omega)) _ (by simp only[go_sem])
    |false=>
     have c2':=Gc c2
     have c3':=Gc c3
     have w1:IntKind.i64.wrap (10*((YB 0 (w.take i):Nat):Int))=10*((YB 0 (w.take i):Nat):Int):=JmB (by omega) (by omega)
     have w2:IntKind.i64.wrap (b.toNat:Int)=b.toNat:=JmB (by omega) (by omega)
     have w3:IntKind.i64.wrap (10*((YB 0 (w.take i):Nat):Int)+(b.toNat:Int))=10*((YB 0 (w.take i):Nat):Int)+(b.toNat:Int):=JmB (by omega) (by omega)
     have w4:IntKind.i64.wrap (10*((YB 0 (w.take i):Nat):Int)+(b.toNat:Int)-48)=((YB 0 (w.take (i+1)):Nat):Int):=by rw[JmB (by omega) (by omega),Yb0 hb];omega
     have hinc:=inc64q (i:=i) (by omega)
     have ht:w.take (i+1)=w.take i++[b]:=by rw[GW,hb];rfl
     have hd:YT b=true:=YP.2 (by omega)
     simp only[b657_0,go_sem,s0,s3,s4,c1,hb,c2,c3,w1,w2,w3,w4,hinc]
     exact⟨i+1,by omega,by omega,by rw[ht];simp[ha,hd],rfl,rfl⟩
def H657 (Pg:PgT):Prop:=Pg 657=some (.code F657)
theorem K657 (h:H657 Pg) (w:List UInt8):K' Pg 657 [.str w]=some (iz (numB w)):=by
 have none_:Y5 w=false∨¬w.length≤13→numB w=-1:=fun h=>by
  unfold numB;rcases h with h|h
  ·rw[h];rfl
  ·rw[GE h,Bool.and_false];rfl
 refine JdD h rfl ?_;cases c1:decide ((w.length:Int)=0) with
 |true=>
  have hw:w=[]:=List.length_eq_zero_iff.1 (by have:=Ge c1;omega);have e:=none_ (.inl (by rw[hw];rfl));simp only[F657,c657,go_sem,c1,e]
 |false=>
 cases c2:decide ((13:Int)<(w.length:Int)) with
 |true=>
  have e:=none_ (.inr (by have:=Ge c2;omega));simp only[F657,c657,go_sem,c1,c2,e]
 |false=>
 have hl:w.length≤13:=by have:=Gc c2;omega
 have hne:w≠[]:=by intro e;subst e;simp at c1
 obtain⟨b0,hb0⟩:∃b,w[0]?=some b:=⟨w[0]'(by have:=Gac.2 hne;omega),List.getElem?_eq_getElem _⟩;have hh:w.head?=some b0:=by rw[List.head?_eq_getElem?];exact hb0
 have x0:Jeg (.str w) (.int .i64 0)=some (.int .u8 b0.toNat):=by simp[Jeg,hb0]
 have can:¬(1<w.length∧b0=48)→Y5 w=w.all YT:=fun q=>by
  have q':(decide (1<w.length)&&decide (w.head?=some 48))=false:=by
   rw[hh,Bool.and_eq_false_iff,GL,GL];rcases Decidable.not_and_iff_or_not.1 q with q|q
   ·exact .inl q
   ·exact .inr (by intro e;exact q (Option.some.inj e))
  unfold Y5;rw[GE hne,q'];rfl
 have fin:∀q:Y5 w=w.all YT,(w.all YT=true→numB w=(YB 0 w:Nat))∧(w.all YT=false→numB w=-1):=fun q=>
  ⟨fun a=>by unfold numB;rw[q,a,GN hl];rfl,fun a=>none_ (.inl (q.trans a))⟩
 cases c3:decide ((1:Int)<(w.length:Int)) with
 |true=>
  cases c4:decide ((b0.toNat:Int)=48) with
  |true=>
   have hb:b0=48:=by
    have:=Ge c4;exact UInt8.toNat_inj.1 (by show b0.toNat=48;omega)
   have e:=none_ (.inl (by unfold Y5;rw[hh,hb,GN (show 1<w.length by have:=Ge c3;omega)];simp));simp only[F657,c657,go_sem,c1,c2,c3,x0,c4,e]
  |false=>
   obtain⟨f1,f2⟩:=fin (can fun q=>Gc c4 (by rw[q.2];rfl));simp only[F657,c657,go_sem,c1,c2,c3,x0,c4];exact Ybp (w:=w) (by simp only[go_sem]) (by simp only[go_sem]) (by simp only[go_sem]) hl (fun a S' q3=>by simp only[go_sem,q3,f1 a]) (fun a S' q2=>by simp only[go_sem,q2,f2 a])
 |false=>
  obtain⟨f1,f2⟩:=fin (can fun q=>Gc c3 (by have:=q.1;omega));simp only[F657,c657,go_sem,c1,c2,c3];exact Ybp (w:=w) (by simp only[go_sem]) (by simp only[go_sem]) (by simp only[go_sem]) hl (fun a S' q3=>by simp only[go_sem,q3,f1 a]) (fun a S' q2=>by simp only[go_sem,q2,f2 a])
def YR (w:List UInt8) (f i:Nat):List UInt8:=(w.take i).drop f
theorem YcI {w:List UInt8} {f i:Nat} {b:UInt8} (h:w[i]?=some b) (hf:f≤i):YR w f (i+1)=YR w f i++[b]:=by
 have hl:i<w.length:=(List.getElem?_eq_some_iff.1 h).1;have:w.take (i+1)=w.take i++[b]:=by rw[GW,h];rfl
 unfold YR;rw[this,List.drop_append_of_le_length (by rw[Gy];omega)]
theorem Ybk {w:List UInt8} {f i:Nat} (hf:f≤i) (hi:i≤w.length):w.drop f=YR w f i++w.drop i:=by
 unfold YR
 conv=>lhs;rw[←G3 i w]
 rw[List.drop_append_of_le_length (by rw[Gy];omega)]
theorem Ybl {w:List UInt8} {f:Nat}:YR w f f=[]:=List.drop_eq_nil_of_le (by rw[Gy];omega)
theorem Ydw {c:UInt8} {w:List UInt8} {f i:Nat} (h:w[i]?=some c) (hf:f≤i) (hc:c∉YR w f i):splt c (w.drop f)=YR w f i::splt c (w.drop (i+1)):=by
 have hl:i<w.length:=(List.getElem?_eq_some_iff.1 h).1;rw[Ybk hf (by omega),YaH h,Yaq hc]
theorem Ydv {c:UInt8} {w:List UInt8} {f:Nat} (hf:f≤w.length) (hc:c∉YR w f w.length):splt c (w.drop f)=[YR w f w.length]:=by
 have e:=Ybk (w:=w) hf (Gm _);rw[List.drop_length,GI] at e;rw[e,Yay hc]
def SpI (c:UInt8) (w:List UInt8) (i f:Nat) (acc:List (List UInt8)):Prop:=
 (i≤w.length∧f≤i∧c∉YR w f i∧acc++splt c (w.drop f)=splt c w∧acc.length≤i)∨(i=w.length+1∧acc=splt c w)
theorem YdW {c:UInt8} {w:List UInt8}:SpI c w 0 0 []:=.inl ⟨G1 _,Gm _,by rw[Ybl];simp,by simp,Gm _⟩
theorem YbU {c b:UInt8} {w:List UInt8} {i f:Nat} {acc} (h:SpI c w i f acc) (hb:w[i]?=some b) (hn:b≠c):SpI c w (i+1) f acc:=by
 have hl:i<w.length:=(List.getElem?_eq_some_iff.1 hb).1;rcases h with ⟨h1,h2,h3,h4,h5⟩|⟨h1,_⟩
 ·refine .inl ⟨hl,by omega,?_,h4,by omega⟩;rw[YcI hb h2];simp only[GQ,List.mem_singleton,not_or];exact⟨h3,fun e=>hn e.symm⟩
 ·omega
theorem Ycz {c:UInt8} {w:List UInt8} {i f:Nat} {acc} (h:SpI c w i f acc) (hb:w[i]?=some c):SpI c w (i+1) (i+1) (acc++[YR w f i]):=by
 have hl:i<w.length:=(List.getElem?_eq_some_iff.1 hb).1;rcases h with ⟨h1,h2,h3,h4,h5⟩|⟨h1,_⟩
 ·refine .inl ⟨hl,Gm _,by rw[Ybl];simp,?_,by simp;omega⟩;rw[←h4,Ydw hb h2 h3,GG];rfl
 ·omega
theorem YbT {c:UInt8} {w:List UInt8} {f:Nat} {acc} (h:SpI c w w.length f acc):SpI c w (w.length+1) (w.length+1) (acc++[YR w f w.length]):=by
 rcases h with ⟨h1,h2,h3,h4,h5⟩|⟨h1,_⟩
 ·refine .inr ⟨rfl,?_⟩;rw[←h4,Ydv h2 h3]
 ·omega
def Yi (l:List (List UInt8)):List (List V):=l.map fun x=>[V.str x]
def H654 (Pg:PgT):Prop:=Pg 654=some (.code F654)
theorem K654 (h:H654 Pg) (w:List UInt8) (c:UInt8) (hw:w.length≤2 ^ 20):K' Pg 654 [.str w,.int .u8 c.toNat]=some (.slice 1 (Yi (splt c w))):=by
 refine JdD h rfl ?_;simp only[F654,c654,go_sem];unfold l654_0;refine JmD (fun (i:Nat) S=>∃f acc,SpI c w i f acc∧S.ρ 0=.str w∧S.ρ 1=.int .u8 c.toNat∧S.ρ 6=iz f∧S.ρ 7=iz i∧S.ρ 5=.own 5 1 acc.length∧S.A 5=some (1,Yi acc,.live)∧acc.length≤w.length+1) (fun i=>w.length+1-i) 0 ?_ ?_
 ·exact⟨0,[],YdW,by simp[go_sem,Yi]⟩
 ·intro i S ⟨f,acc,hI,r0,r1,r6,r7,r5,a5,hl⟩;have hle:i≤w.length+1:=by rcases hI with ⟨h1,_⟩|⟨h1,_⟩<;>omega
  cases c1:decide ((i:Int)≤(w.length:Int)) with
  |false=>
   rcases hI with ⟨h1,_⟩|⟨h1,rfl⟩
   ·have:=Gc c1;omega
   ·simp only[b654_0,go_sem,r0,r7,c1,r5,a5,Yi,Gi]
  |true=>
   have hi:i≤w.length:=by have:=Ge c1;omega
   have hinc:=inc64q (i:=i) (by omega)
   have hf:f≤i:=by rcases hI with ⟨_,h2,_⟩|⟨h2,_⟩<;>omega
   have hacc:acc.length≤i:=by rcases hI with ⟨_,_,_,_,h5⟩|⟨h2,_⟩<;>omega
   have l1:(f≤i∧i≤w.length)=True:=eq_true ⟨hf,hi⟩;have l2:(acc.length+1≤lim)=True:=eq_true (by simp only[lim];omega);cases c2:decide ((i:Int)=(w.length:Int)) with
   |true=>
    have e:i=w.length:=by have:=Ge c2;omega
    have hI':SpI c w (i+1) (i+1) (acc++[YR w f i]):=by subst e;exact YbT hI
    simp only[b654_0,go_sem,r0,r1,r5,r6,r7,a5,c1,c2,l1,Jr,List.replicate,List.set,Yi,Gi,l2,hinc];exact⟨i+1,by omega,i+1,_,hI',rfl,rfl,by simp,by simp[YR],by simp;omega⟩
   |false=>
    have hlt:i<w.length:=by have:=Gc c2;omega
    obtain⟨b,hb⟩:∃b,w[i]?=some b:=⟨w[i]'hlt,List.getElem?_eq_getElem _⟩;cases c3:decide ((b.toNat:Int)=(c.toNat:Int)) with
    |true=>
     have e:b=c:=UInt8.toNat_inj.1 (by have:=Ge c3;omega);subst e;have hI':=Ycz hI hb;simp only[b654_0,go_sem,r0,r1,r5,r6,r7,a5,c1,c2,hb,c3,l1,Jr,List.replicate,List.set,Yi,Gi,l2,hinc];exact⟨i+1,by omega,i+1,_,hI',rfl,rfl,by simp,by simp[YR],by simp;omega⟩
    |false=>
     have hI':=YbU hI hb (fun e=>Gc c3 (by rw[e]));simp only[b654_0,go_sem,r0,r1,r5,r6,r7,a5,c1,c2,hb,c3,hinc];exact⟨i+1,by omega,f,acc,hI',by simp[hl]⟩
structure Stamp where
 wall:Int
 tick:Int
 node:Int
 deriving DecidableEq
@[go_sem] def Ym (s:Stamp):List V:=[iz s.wall,iz s.tick,iz s.node]
def Yab (a b:Int):Bool:=decide (0≤a)&&decide (a≤b)
def YaF (a b:Int):Int:=if a<b then -1 else if b<a then 1 else 0
def orI:List Int→Int
 |[]=>0
 |a::l=>if a=0 then orI l else a
def Yj (s:Stamp):Bool:=Yab s.wall 1099511627776&&Yab s.tick 1048576&&Yab s.node 255
def Yg (a b:Stamp):Int:=orI [YaF a.wall b.wall,YaF a.tick b.tick,YaF a.node b.node]
def H32 (Pg:PgT):Prop:=Pg 32=some (.code F32)
theorem K32 (h:H32 Pg) (a b:Int):K' Pg 32 [iz a,iz b]=some (.bool (Yab a b)):=by
 refine JdD h rfl ?_;simp only[go_sem];refine JmC (fun h=>?_) (fun h=>?_)<;>simp only[go_sem,h,Yab]
def H28 (Pg:PgT):Prop:=Pg 28=some (.code F28)∧H32 Pg
theorem K28 (h:H28 Pg) (a:Stamp):K' Pg 28 [.agg (Ym a)]=some (.bool (Yj a)):=by
 obtain⟨h,h32⟩:=h;refine JdD h rfl ?_;have k:=fun x y=>K32 h32 x y;simp only[go_sem,k]
 repeat' (refine JmC (fun h=>?_) (fun h=>?_)<;>simp only[go_sem,h,k,Yj])
def before (a b:Stamp):Bool:=decide (Yg a b<0)
def H24 (Pg:PgT):Prop:=Pg 24=some (.code F24)
theorem K24 (h:H24 Pg) (a:Stamp):K' Pg 24 [.agg (Ym a)]=some (.bool (Yj a)):=by
 refine JdD h rfl ?_;simp only[go_sem]
 repeat' (refine JmC (fun h=>?_) (fun h=>?_)<;>simp only[go_sem,h])
 all_goals simp_all [Yj,Yab]
 all_goals (intros;omega)
def YU (r:Option (Int×Int×Int)):List V:=match r with
 |some (x,y,z)=>[iz x,iz y,iz z]
 |none=>[iz 0,iz 0,iz 0]
def YbZ (r:Option (Int×Int×Int)):V:=.tuple [.agg (YU r),.bool r.isSome]
def YaW (l:List (List UInt8)):List (List V):=l.map fun x=>[iz (numB x)]
theorem YaZ (x y z:Int):Yj ⟨x,y,z⟩=Yy x y z:=by
 simp only[Yj,Yy,Yab,Bool.and_assoc]
theorem Yce {s z m k}:Jbc z (.own s z m) (.int k 0)=if 0<m then some (.eref s 0 0 m) else none:=Jlv (n:=0)
theorem Ycf {s z m k}:Jbc z (.own s z m) (.int k 1)=if 1<m then some (.eref s 1 0 m) else none:=Jlv (n:=1)
theorem Ycg {s z m k}:Jbc z (.own s z m) (.int k 2)=if 2<m then some (.eref s 2 0 m) else none:=Jlv (n:=2)
def H659 (Pg:PgT):Prop:=Pg 659=some (.code F659)∧H657 Pg∧H24 Pg
theorem K659 (h:H659 Pg) (w:List UInt8) (hw:w.length≤2 ^ 20):K' Pg 659 [.str w]=some (YbZ (stD w)):=by
 obtain⟨h,h657,h24⟩:=h;refine JdD h rfl ?_;simp only[F659,c659,go_sem];unfold l659_0;refine JmD (fun (i:Nat) S=>∃f acc,SpI 46 w i f acc∧S.ρ 0=.str w∧S.ρ 5=iz f∧S.ρ 6=iz i∧S.ρ 4=.own 4 1 acc.length∧S.A 4=some (1,YaW acc,.live)∧acc.length≤w.length+1∧S.ρ 2=.lref 2 0∧S.μ 2=some ([iz 0,iz 0,iz 0],false)∧S.μ 7=none) (fun i=>w.length+1-i) 0 ?_ ?_
 ·exact⟨0,[],YdW,by simp[go_sem,YaW]⟩
 ·intro i S ⟨f,acc,hI,r0,r5,r6,r4,a4,hl,r2,m2,m7⟩;have hle:i≤w.length+1:=by rcases hI with ⟨h1,_⟩|⟨h1,_⟩<;>omega
  cases c1:decide ((i:Int)≤(w.length:Int)) with
  |false=>
   rcases hI with ⟨h1,_⟩|⟨h1,rfl⟩
   ·have:=Gc c1;omega
   ·generalize hs:splt 46 w=l at r4 a4 hl;have hd:stD w=match l.map numB with
     |[x,y,z]=>if Yy x y z=true then some (x,y,z) else none
     |_=>none:=by rw[←hs];rfl
    cases c2:decide ((l.length:Int)=3) with
    |false=>
     have hn:stD w=none:=by
      rw[hd];rcases l with _|⟨a,_|⟨b,_|⟨c,_|⟨d,l⟩⟩⟩⟩<;>first|rfl|(simp at c2;done)
     simp only[b659_0,go_sem,r0,r2,r4,r5,r6,a4,m2,m7,c1,c2,hn,YbZ,YU,Option.isSome_none]
    |true=>
     obtain⟨a,b,c,rfl⟩:∃a b c,l=[a,b,c]:=by
      have:=Ge c2;rcases l with _|⟨a,_|⟨b,_|⟨c,_|⟨d,l⟩⟩⟩⟩<;>first|exact⟨_,_,_,rfl⟩|(simp at this;done)|(simp at this;omega)
     have k:=K24 h24 ⟨numB a,numB b,numB c⟩;simp only[Ym,YaZ] at k;simp only[Gv,Gp] at hd;cases c3:Yy (numB a) (numB b) (numB c) with
     |true=>
      rw[c3] at k hd;simp only[Gx] at hd;simp only[YaW,Gv,Gp,List.length_cons,List.length_nil] at a4 r4;simp only[b659_0,go_sem,r0,r2,r4,r5,r6,a4,m2,m7,c1,c2,hd,YbZ,YU,k,Option.isSome_some,Yce,Ycf,Ycg,Nat.reduceLT]
     |false=>
      rw[c3] at k hd;simp only[Gr,GD] at hd;simp only[YaW,Gv,Gp,List.length_cons,List.length_nil] at a4 r4;simp only[b659_0,go_sem,r0,r2,r4,r5,r6,a4,m2,m7,c1,c2,hd,YbZ,YU,k,Option.isSome_none,Yce,Ycf,Ycg,Nat.reduceLT]
  |true=>
   have hi:i≤w.length:=by have:=Ge c1;omega
   have hinc:=inc64q (i:=i) (by omega)
   have hf:f≤i:=by rcases hI with ⟨_,h2,_⟩|⟨h2,_⟩<;>omega
   have hacc:acc.length≤i:=by rcases hI with ⟨_,_,_,_,h5⟩|⟨h2,_⟩<;>omega
   have l1:(f≤i∧i≤w.length)=True:=eq_true ⟨hf,hi⟩;have l2:(acc.length+1≤lim)=True:=eq_true (by simp only[lim];omega);have kn:=K657 h657 (YR w f i);simp only[YR] at kn;cases c2:decide ((i:Int)=(w.length:Int)) with
   |true=>
    have e:i=w.length:=by have:=Ge c2;omega
    have hI':SpI 46 w (i+1) (i+1) (acc++[YR w f i]):=by subst e;exact YbT hI
    simp only[b659_0,go_sem,r0,r2,r5,r6,r4,a4,c1,c2,l1,kn,Jr,List.replicate,List.set,YaW,Gi,l2,hinc,m2,m7];exact⟨i+1,by omega,i+1,_,hI',rfl,rfl,by simp,by simp[YR],by simp;omega⟩
   |false=>
    have hlt:i<w.length:=by have:=Gc c2;omega
    obtain⟨b,hb⟩:∃b,w[i]?=some b:=⟨w[i]'hlt,List.getElem?_eq_getElem _⟩;cases c3:decide ((b.toNat:Int)=46) with
    |true=>
     have e:b=46:=UInt8.toNat_inj.1 (by have:=Ge c3;show b.toNat=46;omega);subst e;have hI':=Ycz hI hb;simp only[b659_0,go_sem,r0,r2,r5,r6,r4,a4,c1,c2,hb,c3,l1,kn,Jr,List.replicate,List.set,YaW,Gi,l2,hinc,m2,m7];exact⟨i+1,by omega,i+1,_,hI',rfl,rfl,by simp,by simp[YR],by simp;omega⟩
    |false=>
     have hI':=YbU hI hb (fun e=>Gc c3 (by rw[e];rfl));simp only[b659_0,go_sem,r0,r2,r5,r6,r4,a4,c1,c2,hb,c3,hinc,m2,m7];exact⟨i+1,by omega,f,acc,hI',by simp[hl]⟩
def wordL:List (List UInt8):=[[112,117,116],[110,101,119],[100,101,108],[103,101,116],[99,97,115],[97,116],[112,97,103,101],[111,112,101,110],[99,108,111,115,101],[119,97,108,108],[97,114,109],[99,114,97,115,104],[109,111,118,101],[109,101,114,103,101],[116,105,99,107],[98,101,97,116],[99,111,109,101],[108,111,115,101],[116,119,105,99,101],[115,112,108,105,116],[114,111,117,110,100],[97,98,111,114,116],[118,105,101,119]]
def wn (w:List UInt8):Nat:=wordL.findIdx (fun x=>decide (x=w))
theorem YaS (w:List UInt8):wn w≤23:=List.findIdx_le_length
theorem Yd2:∀j:Fin 23,wn (wordL[j.1]'(j.2))=j.1:=by decide
theorem Yq (w:List UInt8) (j:Nat) (hj:j<23):decide (w=wordL[j]'hj)=decide (wn w=j):=by
 refine G8.2 ⟨fun h=>by rw[h];exact Yd2 ⟨j,hj⟩,fun h=>?_⟩;have h1:wn w<wordL.length:=by rw[h];exact hj
 have h2:=List.findIdx_getElem (w:=h1);have h3:=Ge h2;rw[←h3]
 congr 1
theorem wd0 (w:List UInt8):decide (w=[112,117,116])=decide (wn w=0):=Yq w 0 (by decide)
theorem wd1 (w:List UInt8):decide (w=[110,101,119])=decide (wn w=1):=Yq w 1 (by decide)
theorem wd2 (w:List UInt8):decide (w=[100,101,108])=decide (wn w=2):=Yq w 2 (by decide)
theorem wd3 (w:List UInt8):decide (w=[103,101,116])=decide (wn w=3):=Yq w 3 (by decide)
theorem wd4 (w:List UInt8):decide (w=[99,97,115])=decide (wn w=4):=Yq w 4 (by decide)
theorem wd5 (w:List UInt8):decide (w=[97,116])=decide (wn w=5):=Yq w 5 (by decide)
theorem wd6 (w:List UInt8):decide (w=[112,97,103,101])=decide (wn w=6):=Yq w 6 (by decide)
theorem wd7 (w:List UInt8):decide (w=[111,112,101,110])=decide (wn w=7):=Yq w 7 (by decide)
theorem wd8 (w:List UInt8):decide (w=[99,108,111,115,101])=decide (wn w=8):=Yq w 8 (by decide)
theorem wd9 (w:List UInt8):decide (w=[119,97,108,108])=decide (wn w=9):=Yq w 9 (by decide)
theorem Yeq (w:List UInt8):decide (w=[97,114,109])=decide (wn w=10):=Yq w 10 (by decide)
theorem Yer (w:List UInt8):decide (w=[99,114,97,115,104])=decide (wn w=11):=Yq w 11 (by decide)
theorem Yes (w:List UInt8):decide (w=[109,111,118,101])=decide (wn w=12):=Yq w 12 (by decide)
theorem Yet (w:List UInt8):decide (w=[109,101,114,103,101])=decide (wn w=13):=Yq w 13 (by decide)
theorem Yeu (w:List UInt8):decide (w=[116,105,99,107])=decide (wn w=14):=Yq w 14 (by decide)
theorem Yev (w:List UInt8):decide (w=[98,101,97,116])=decide (wn w=15):=Yq w 15 (by decide)
theorem Yew (w:List UInt8):decide (w=[99,111,109,101])=decide (wn w=16):=Yq w 16 (by decide)
theorem Yex (w:List UInt8):decide (w=[108,111,115,101])=decide (wn w=17):=Yq w 17 (by decide)
theorem Yey (w:List UInt8):decide (w=[116,119,105,99,101])=decide (wn w=18):=Yq w 18 (by decide)
theorem Yez (w:List UInt8):decide (w=[115,112,108,105,116])=decide (wn w=19):=Yq w 19 (by decide)
theorem YeA (w:List UInt8):decide (w=[114,111,117,110,100])=decide (wn w=20):=Yq w 20 (by decide)
theorem YeB (w:List UInt8):decide (w=[97,98,111,114,116])=decide (wn w=21):=Yq w 21 (by decide)
theorem YeC (w:List UInt8):decide (w=[118,105,101,119])=decide (wn w=22):=Yq w 22 (by decide)
attribute [go_sem] wd0 wd1 wd2 wd3 wd4 wd5 wd6 wd7 wd8 wd9 Yeq Yer Yes Yet Yeu Yev Yew Yex Yey Yez YeA YeB YeC
theorem YX {n:Nat} (h:n≤23):n=0∨n=1∨n=2∨n=3∨n=4∨n=5∨n=6∨n=7∨n=8∨n=9∨n=10∨n=11∨n=12∨n=13∨n=14∨n=15∨n=16∨n=17∨n=18∨n=19∨n=20∨n=21∨n=22∨n=23:=by omega
def formN:Nat→List UInt8
 |0|1|7=>[78,84,84]
 |2|3|19=>[78,84]
 |4=>[78,84,84,84]
 |5=>[78,84,83]
 |6=>[78,84,84,83,78]
 |8|9|10|11|12|13=>[78,78]
 |14|15|16|17|18=>[78]
 |_=>[]
def H656 (Pg:PgT):Prop:=Pg 656=some (.code F656)
theorem K656 (h:H656 Pg) (w:List UInt8):K' Pg 656 [.str w]=some (.str (formN (wn w))):=by
 refine JdD h rfl ?_;have hle:=YaS w;rcases YX hle with e|e|e|e|e|e|e|e|e|e|e|e|e|e|e|e|e|e|e|e|e|e|e|e<;>simp only[F656,c656,go_sem,e,formN]
structure Stp where
 kind:Int
 who:Int
 nn:Int
 rk:Int
 key:List UInt8
 val:List UInt8
 had:Bool
 old:List UInt8
 at_:Int×Int×Int
 hi:List UInt8
 limit:Int
 ck:Int
 cs:Int
 co:Int
 ct:Int
 ckey:List UInt8
 mem:List Int
def Yc:Stp:=⟨0,0,0,0,[],[],false,[],(0,0,0),[],0,0,0,0,0,[],[]⟩
def eI1 (l:List Int):List (List V):=l.map fun n=>[iz n]
def Yh (s:Stp):List V:=[iz s.kind,iz s.who,iz s.nn,iz 0,iz 0,iz s.rk,.str s.key,.str s.val,.bool s.had,.str s.old,iz s.at_.1,iz s.at_.2.1,iz s.at_.2.2,.str s.hi,iz s.limit,iz s.ck,iz s.cs,iz s.co,iz s.ct,.str s.ckey,.slice 1 (eI1 s.mem)]
def YL (r:Option Stp):V:=.tuple [.agg (Yh (r.getD Yc)),.bool r.isSome]
theorem YcS {z n s off k}:Jbu z n (.lref s off) (.int k 1)=if 1<n then some (.lref s (off+1*z)) else none:=Jjc (i:=1)
theorem YcT {z n s off k}:Jbu z n (.lref s off) (.int k 2)=if 2<n then some (.lref s (off+2*z)) else none:=Jjc (i:=2)
theorem YcU {z n s off k}:Jbu z n (.lref s off) (.int k 3)=if 3<n then some (.lref s (off+3*z)) else none:=Jjc (i:=3)
theorem YcV {z n s off k}:Jbu z n (.lref s off) (.int k 4)=if 4<n then some (.lref s (off+4*z)) else none:=Jjc (i:=4)
theorem YcW {z n s off k}:Jbu z n (.lref s off) (.int k 5)=if 5<n then some (.lref s (off+5*z)) else none:=Jjc (i:=5)
attribute [go_sem] YcS YcT YcU YcV YcW
def othN (i:Nat) (n1 n2:Int) (t:List UInt8):Stp:=match i with
 |14=>{Yc with kind:=4,who:=n1}
 |15=>{Yc with kind:=5,who:=n1}
 |16=>{Yc with kind:=6,nn:=n1}
 |17=>{Yc with kind:=7,nn:=n1}
 |18=>{Yc with kind:=8,nn:=n1}
 |9=>{Yc with kind:=9,who:=n1,nn:=n2}
 |10=>{Yc with kind:=10,who:=n1,nn:=n2}
 |11=>{Yc with kind:=11,who:=n1,nn:=n2}
 |12=>{Yc with kind:=12,ck:=1,cs:=n1,ct:=n2}
 |19=>{Yc with kind:=12,ck:=2,cs:=n1,ckey:=t}
 |13=>{Yc with kind:=12,ck:=3,cs:=n1,co:=n2}
 |_=>Yc
def H660 (Pg:PgT):Prop:=Pg 660=some (.code F660)
theorem K660 (h:H660 Pg) (w:List UInt8) (n0 n1 n2 n3 n4 n5:Int) (t:List UInt8) :
  K' Pg 660 [.str w,.agg [iz n0,iz n1,iz n2,iz n3,iz n4,iz n5],.str t]=some (.agg (Yh (othN (wn w) n1 n2 t))):=by
 refine JdD h rfl ?_
 have hle:=YaS w
 rcases YX hle with e|e|e|e|e|e|e|e|e|e|e|e|e|e|e|e|e|e|e|e|e|e|e|e<;>simp only[F660,c660,go_sem,e,othN,Yh,Yc,eI1,Gp]
def nnQ (x:List UInt8):Bool:=decide (0≤numB x)
def viewD (l:List (List UInt8)):Option Stp:=if decide (l.length<3)||decide (5<l.length) then none
 else if (l.drop 1).all nnQ then some {Yc with kind:=12,ck:=5,ct:=numB (l.getD 1 []),mem:=(l.drop 2).map numB} else none
def vwC (ct:Int) (M:V):List V:=[iz 12,iz 0,iz 0,iz 0,iz 0,iz 0,.str [],.str [],.bool false,.str [],iz 0,iz 0,iz 0,.str [],iz 0,iz 5,iz 0,iz 0,iz ct,.str [],M]
def VwI (l:List (List UInt8)) (i:Nat) (S:St):Prop:=
 (i=1∧S.μ 4=some (vwC 0 (.nslice 1),false)∧S.A 43=none)∨
 (i=2∧S.μ 4=some (vwC (numB (l.getD 1 [])) (.nslice 1),false)∧S.A 43=none)∨
 (3≤i∧∃acc,acc=((l.drop 2).take (i-2)).map numB∧acc.length=i-2∧S.μ 4=some (vwC (numB (l.getD 1 [])) (.own 43 1 acc.length),false)∧S.A 43=some (1,eI1 acc,.live))
theorem tk1 {l:List (List UInt8)} {i:Nat} {x:List UInt8} (h:l[i]?=some x) (hi:2≤i):((l.drop 2).take (i+1-2)).map numB=((l.drop 2).take (i-2)).map numB++[numB x]:=by
 have e:i+1-2=(i-2)+1:=by omega
 rw[e,GW,List.getElem?_drop,show 2+(i-2)=i by omega,h];simp
def H655 (Pg:PgT):Prop:=Pg 655=some (.code F655)∧H657 Pg
theorem K655 (h:H655 Pg) (l:List (List UInt8)):K' Pg 655 [.slice 1 (Yi l)]=some (YL (viewD l)):=by
 obtain⟨h,h657⟩:=h;refine JdD h rfl ?_;cases c1:decide ((l.length:Int)<3) with
 |true=>
  have e:viewD l=none:=by unfold viewD;rw[GN (show l.length<3 by have:=Ge c1;omega)];rfl
  simp only[F655,c655,go_sem,Yi,Gi,c1,e,YL,Yh,Yc,eI1,Option.getD_none,Option.isSome_none,Gp]
 |false=>
 cases c2:decide ((5:Int)<(l.length:Int)) with
 |true=>
  have e:viewD l=none:=by unfold viewD;rw[GN (show 5<l.length by have:=Ge c2;omega),Bool.or_true];rfl
  simp only[F655,c655,go_sem,Yi,Gi,c1,c2,e,YL,Yh,Yc,eI1,Option.getD_none,Option.isSome_none,Gp]
 |false=>
 have g1:=Gc c1;have g2:=Gc c2;have hv:viewD l=if (l.drop 1).all nnQ then some {Yc with kind:=12,ck:=5,ct:=numB (l.getD 1 []),mem:=(l.drop 2).map numB} else none:=by
  unfold viewD;rw[GE (show ¬l.length<3 by omega),GE (show ¬5<l.length by omega)];rfl
 simp only[F655,c655,go_sem,Yi,Gi,c1,c2];unfold l655_0;refine JmD (fun (i:Nat) S=>1≤i∧i≤l.length∧((l.drop 1).take (i-1)).all nnQ=true∧S.ρ 0=.slice 1 (Yi l)∧S.ρ 5=iz i∧S.ρ 4=.lref 4 0∧S.ρ 2=.lref 2 0∧S.μ 2=some (Yh Yc,false)∧VwI l i S) (fun i=>l.length-i) 1 ?_ ?_
 ·exact⟨Gm _,by omega,by simp,by simp[go_sem,Yi],by simp[go_sem],by simp[go_sem],by simp[go_sem],by simp[go_sem,Yh,Yc,eI1],.inl ⟨rfl,by simp[go_sem,vwC],by simp[go_sem]⟩⟩
 ·intro i S ⟨hi1,hi,hall,r0,r5,r4,r2,m2,hI⟩;simp only[Yh,Yc,eI1,Gp] at m2;simp only[Yi] at r0;cases c3:decide ((i:Int)<(l.length:Int)) with
  |false=>
   have e:i=l.length:=by have:=Gc c3;omega
   have hall':(l.drop 1).all nnQ=true:=by
    rw[G0 (by rw[Gu];omega)] at hall;exact hall
   rw[hall',Gl rfl] at hv;rcases hI with ⟨h1,_⟩|⟨h1,_⟩|⟨h1,acc,hacc,hal,m4,a43⟩
   ·omega
   ·omega
   ·rw[G0 (by rw[Gu];omega)] at hacc;subst hacc;simp only[vwC] at m4;simp only[eI1] at a43;simp only[b655_0,go_sem,r0,r2,r4,r5,m2,m4,a43,Gi,c3,hv,YL,Yh,Yc,eI1,Option.getD_some,Option.isSome_some]
  |true=>
   have hlt:i<l.length:=by have:=Ge c3;omega
   obtain⟨x,hx⟩:∃x,l[i]?=some x:=⟨l[i]'hlt,List.getElem?_eq_getElem _⟩;have k:=K657 h657 x;have hinc:=inc64q (i:=i) (by omega)
   cases c4:decide (numB x<0) with
   |true=>
    have hb:(l.drop 1).all nnQ=false:=by
     rw[List.all_eq_false];refine⟨x,List.mem_of_getElem? (i:=i-1) (by rw[List.getElem?_drop,show 1+(i-1)=i by omega];exact hx),?_⟩;have:=Ge c4;simp only[nnQ,Gz];omega
    rw[hb] at hv;simp only[Gr,GD] at hv;rcases hI with ⟨h1,m4,a43⟩|⟨h1,m4,a43⟩|⟨h1,acc,hacc,hal,m4,a43⟩ <;>
    ·simp only[vwC] at m4;simp only[b655_0,go_sem,r0,r2,r4,r5,m2,m4,a43,Gi,List.getElem?_map,hx,Option.map_some,c3,c4,k,hv,YL,Yh,Yc,eI1,Option.getD_none,Option.isSome_none,Gp]
   |false=>
    have hn:nnQ x=true:=by
     have:=Gc c4;simp only[nnQ,Gz];omega
    have hall2:((l.drop 1).take (i+1-1)).all nnQ=true:=by
     have e:i+1-1=(i-1)+1:=by omega
     rw[e,GW,List.getElem?_drop,show 1+(i-1)=i by omega,hx,List.all_append,hall];simp[hn]
    rcases hI with ⟨h1,m4,a43⟩|⟨h1,m4,a43⟩|⟨h1,acc,hacc,hal,m4,a43⟩
    ·have c5:decide ((i:Int)=1)=true:=GN (by omega);have hg:l.getD 1 []=x:=by subst h1;rw[List.getD_eq_getElem?_getD,hx];rfl
     simp only[vwC] at m4;simp only[b655_0,go_sem,r0,r2,r4,r5,m2,m4,a43,Gi,List.getElem?_map,hx,Option.map_some,c3,c4,c5,k,hinc,Yi];refine⟨i+1,by omega,by omega,hlt,hall2,rfl,by simp only[Yh,Yc,eI1,Gp],.inr (.inl ⟨by omega,?_,?_⟩)⟩
     ·rw[hg];simp[go_sem,vwC]
     ·simp[go_sem,a43]
    ·have c5:decide ((i:Int)=1)=false:=GE (by omega);simp only[vwC] at m4;have l2:(1≤lim)=True:=eq_true (by decide);simp only[b655_0,go_sem,r0,r2,r4,r5,m2,m4,a43,Gi,List.getElem?_map,hx,Option.map_some,c3,c4,c5,k,hinc,Yi,Jr,List.replicate,List.set,l2];refine⟨i+1,by omega,by omega,hlt,hall2,rfl,by simp only[Yh,Yc,eI1,Gp],.inr (.inr ⟨by omega,[numB x],?_,by simp;omega,?_,?_⟩)⟩
     ·rw[tk1 hx (by omega),h1];simp
     ·simp[go_sem,vwC]
     ·simp[go_sem,eI1]
    ·have c5:decide ((i:Int)=1)=false:=GE (by omega);simp only[vwC] at m4;simp only[eI1] at a43;have l2:(acc.length+1≤lim)=True:=eq_true (by simp only[lim];omega);simp only[b655_0,go_sem,r0,r2,r4,r5,m2,m4,a43,Gi,List.getElem?_map,hx,Option.map_some,c3,c4,c5,k,hinc,Yi,Jr,List.replicate,List.set,l2];refine⟨i+1,by omega,by omega,hlt,hall2,rfl,by simp only[Yh,Yc,eI1,Gp],.inr (.inr ⟨by omega,acc++[numB x],?_,by simp;omega,?_,?_⟩)⟩
     ·rw[tk1 hx (by omega),←hacc]
     ·simp[go_sem,vwC]
     ·simp[go_sem,eI1]
end Sg
