/- ClusterRefuses, at every input: proved over a checked abstract run of the translated code; no condition. A part. -/
import Derived.Test.YtefmddahijpliaaGreatDoorChecked
import Derived.Lib.LaidU8
import Derived.Lib.OthersKept
import Derived.Laws.RangeAny
import Derived.WalkKit
import Derived.BigCall
import Derived.Test.YtefmddahijpliaaGreatDoorG3
set_option linter.unusedSimpArgs false
set_option linter.unusedVariables false
set_option linter.constructorNameAsVariable false
set_option linter.defProp false
set_option maxHeartbeats 4000000
namespace Sg
abbrev PgT:=Nat→Option Fn
theorem inc64q {i:Nat} (h:i<9223372036854775807):_root_.Go.IntKind.i64.wrap ((i:Int)+1)=((i+1:Nat):Int):=by rw[Jmq (by omega) (by omega)];omega
end Sg
namespace Sg
def look {α:Type}:List (Nat×α)→Nat→Option α
 |[],_=>none
 |(k,a)::l,n=>if k=n then some a else look l n
def plQ:Option Nat→Bool
 |some j=>decide (j<3000)
 |none=>true
def rfQ (F:F) (j:Nat):Bool:=F.own.isNone&&nsC j F.body&&decide (j<1000)
def okTab (P:Go.Program) (cx:Cx) (tab:List (Nat×Fn)):List (Nat×Fn)→Bool
 |[]=>true
 |(k,.code F)::l=>okF P cx (look tab) (cx.fm k) F&&okTab P cx tab l
 |(k,.codeR F j)::l=>okF P cx (look tab) (cx.fm k) F&&rfQ F j&&okTab P cx tab l
 |(_,.prim o _)::l=>plQ o&&okTab P cx tab l
theorem look_mem {α:Type}:∀{l:List (Nat×α)} {n:Nat} {a:α},look l n=some a→(n,a)∈l
 |(k,b)::l,n,a,h=>by
  simp only[look] at h;split at h
  ·rename_i e;subst e;simp only[Ga] at h;subst h;exact Gad
  ·exact G1 _ (look_mem h)
 |[],n,a,h=>by simp[look] at h
def fnQ (P:Go.Program) (cx:Cx) (tab:List (Nat×Fn)) (k:Nat):Fn→Prop
 |.code F=>okF P cx (look tab) (cx.fm k) F=true
 |.codeR F j=>okF P cx (look tab) (cx.fm k) F=true∧rfQ F j=true
 |.prim o _=>plQ o=true
theorem Ya3 {P:Go.Program} {cx:Cx} {tab:List (Nat×Fn)}:∀{l:List (Nat×Fn)},okTab P cx tab l=true→∀k f,(k,f)∈l→fnQ P cx tab k f
 |(k',g)::l,h,k,f,hm=>by
  have h2:fnQ P cx tab k' g∧okTab P cx tab l=true:=by
   cases g<;>simp only[okTab,Gi] at h
   ·exact h
   ·exact h
   ·exact⟨h.1,h.2⟩
  simp only[GM,Gf] at hm;rcases hm with ⟨rfl,rfl⟩|hm
  ·exact h2.1
  ·exact Ya3 h2.2 k f hm
 |[],h,k,f,hm=>by simp at hm
theorem tab_sound {P:Go.Program} {cx:Cx} {tab:List (Nat×Fn)} (hm:P.follows .mixedOrders=true) (hok:okTab P cx tab tab=true)
  (hprim:∀f own p,look tab f=some (.prim own p)→∀args r,p args=some r→Ctr P cx own f args r)
  (hins:∀f z p,z<1000→look tab f=some (.prim (some (1000+z)) p)→∃tS el,InsC P (cx.fm f) z tS el) (hdel:∀f z p,look tab f=some (.prim (some (2000+z)) p)→DelC P (cx.fm f) z)
  (n f:Nat) (args:List V) (r:V) (h:Jw (look tab) n f args=some r):Ctr P cx (ownOf (look tab) f) f args r:=
 (Jan hm (fun f F hf=>Ya3 hok f _ (look_mem hf)) hprim hins hdel (fun f F k hf=>by
  have h1:fnQ P cx tab f (.codeR F k):=Ya3 hok f _ (look_mem hf);have h2:=h1.2;simp only[rfQ,Gi,G8] at h2;exact⟨h1.1,h2.1.1,h2.1.2⟩) (fun f own p hf k hk ho=>by
  have h1:fnQ P cx tab f (.prim own p):=Ya3 hok f _ (look_mem hf);subst ho;simp only[fnQ,plQ,Gx] at h1;omega) n f args r h).1
end Sg
namespace Sg
open _root_.Go (IntKind BinOp UnOp)
@[go_sem] abbrev z_0 : List V := [.str [],.str [],.int .i64 0,.int .i64 0,.int .i64 0]
@[go_sem] abbrev z_1 : List V := [.str [],.str []]
@[go_sem] abbrev z_2 : List V := [.int .i64 0,.int .i64 0,.int .i64 0,.bool false,.str []]
@[go_sem] abbrev z_3 : List V := [.int .i64 0,.int .i64 0,.int .i64 0]
@[go_sem] abbrev z_4 : List V := [.int .i64 0,.int .i64 0,.int .i64 0,.int .i64 0,.int .i64 0,.int .i64 0,.bool false,.str [],.slice 2 [],.str [],.bool false]
@[go_sem] abbrev z_5 : List V := [.int .i64 0,.int .i64 0,.slice 1 [],.int .i64 0,.str [],.str [],.slice 1 []]
@[go_sem] abbrev z_6 : List V := [.int .i64 0,.int .i64 0,.int .i64 0,.int .i64 0,.int .i64 0,.slice 1 [],.str []]
@[go_sem] abbrev z_7 : List V := [.str [],.slice 5 []]
@[go_sem] abbrev z_8 : List V := [.slice 17 [],.int .i64 0,.int .i64 0,.int .i64 0,.int .i64 0]
@[go_sem] abbrev z_9 : List V := [.int .i64 0,.int .i64 0,.int .i64 0,.int .i64 0,.bool false,.str [],.slice 2 [],.str [],.bool false]
@[go_sem] abbrev z_10 : List V := [.int .i64 0,.int .i64 0,.str [],.str [],.int .i64 0,.slice 2 [],.int .i64 0,.int .i64 0,.int .i64 0,.int .i64 0,.int .i64 0,.int .i64 0,.slice 11 [],.int .i64 0,.int .i64 0,.int .i64 0,.int .i64 0]
@[go_sem] abbrev z_11 : List V := [.int .i64 0,.int .i64 0,.int .i64 0,.int .i64 0,.int .i64 0]
@[go_sem] abbrev z_12 : List V := [.int .i64 0,.slice 1 [],.bool false]
@[go_sem] abbrev z_13 : List V := [.slice 5 [],.slice 3 [],.int .i64 0,.slice 5 [],.slice 3 [],.int .i64 0,.int .i64 0,.int .i64 0,.int .i64 0,.int .i64 0,.int .i64 0,.int .i64 0,.int .i64 0,.int .i64 0,.int .i64 0,.int .i64 0,.str [],.slice 1 [],.int .i64 0,.int .i64 0,.int .i64 0,.str [],.str [],.slice 1 [],.int .i64 0,.int .i64 0,.int .i64 0,.slice 1 [],.slice 7 []]
@[go_sem] abbrev z_14 : List V := [.slice 5 [],.nslice 3,.int .i64 0,.slice 5 [],.slice 3 [],.int .i64 0,.int .i64 0,.int .i64 0,.int .i64 0,.int .i64 0,.int .i64 0,.int .i64 0,.int .i64 0,.int .i64 0,.int .i64 0,.int .i64 0,.str [],.slice 1 [],.int .i64 0,.int .i64 0,.int .i64 0,.str [],.str [],.slice 1 [],.int .i64 0,.int .i64 0,.int .i64 0,.slice 1 [],.slice 7 []]
@[go_sem] abbrev z_15 : List V := [.int .i64 0,.int .i64 0,.int .i64 0,.int .i64 0,.int .i64 0,.int .i64 0,.int .i64 0]
@[go_sem] abbrev z_16 : List V := [.int .i64 0,.int .i64 0,.int .i64 0,.int .i64 0,.int .i64 0,.int .i64 0,.int .i64 0,.int .i64 0,.str [],.slice 1 [],.int .i64 0,.int .i64 0,.int .i64 0,.str [],.str [],.slice 1 [],.int .i64 0,.int .i64 0,.int .i64 0,.slice 1 []]
@[go_sem] abbrev z_17 : List V := [.int .i64 0,.int .i64 0,.int .i64 0,.int .i64 0,.int .i64 0,.int .i64 0,.int .i64 0,.int .i64 0,.int .i64 0,.int .i64 0,.int .i64 0,.int .i64 0,.str [],.int .i64 0,.int .i64 0,.int .i64 0,.str [],.str [],.bool false,.str [],.int .i64 0,.int .i64 0,.int .i64 0,.str [],.int .i64 0,.int .i64 0,.int .i64 0,.int .i64 0,.int .i64 0,.bool false,.str [],.slice 2 [],.str [],.bool false,.slice 5 [],.slice 1 []]
@[go_sem] abbrev z_18 : List V := [.int .i64 0,.int .i64 0,.int .i64 0,.int .i64 0,.int .i64 0,.int .i64 0,.int .i64 0,.int .i64 0,.int .i64 0,.int .i64 0,.int .i64 0,.int .i64 0,.str [],.int .i64 0,.int .i64 0,.int .i64 0,.str [],.str [],.bool false,.str [],.int .i64 0,.int .i64 0,.int .i64 0,.str [],.int .i64 0,.int .i64 0,.int .i64 0,.int .i64 0,.int .i64 0,.bool false,.str [],.slice 2 [],.str [],.bool false,.slice 5 [],.nslice 1]
@[go_sem] abbrev z_19 : List V := [.int .i64 0,.int .i64 0,.int .i64 0,.slice 1 [],.int .i64 0,.str [],.str [],.slice 1 [],.slice 36 []]
@[go_sem] abbrev z_20 : List V := [.int .i64 0,.slice 9 []]
@[go_sem] abbrev z_21 : List V := [.int .i64 0,.nslice 9]
@[go_sem] abbrev z_22 : List V := [.str [],.bool false]
@[go_sem] abbrev z_23 : List V := [.nslice 17,.int .i64 0,.int .i64 0,.int .i64 0,.int .i64 0]
@[go_sem] abbrev z_24 : List V := [.int .i64 0,.int .i64 0,.int .i64 0,.str [],.str [],.bool false,.str [],.int .i64 0,.int .i64 0,.int .i64 0,.str [],.int .i64 0]
@[go_sem] abbrev z_25 : List V := [.str [],.nslice 5]
@[go_sem] abbrev z_26 : List V := [.int .i64 0,.int .i64 0,.str [],.str [],.int .i64 0,.nslice 2,.int .i64 0,.int .i64 0,.int .i64 0,.int .i64 0,.int .i64 0,.int .i64 0,.nslice 11,.int .i64 0,.int .i64 0,.int .i64 0,.int .i64 0]
@[go_sem] abbrev z_27 : List V := [.nslice 5,.nslice 3,.int .i64 0,.nslice 5,.nslice 3,.int .i64 0,.int .i64 0,.int .i64 0,.int .i64 0,.int .i64 0,.int .i64 0,.int .i64 0,.int .i64 0,.int .i64 0,.int .i64 0,.int .i64 0,.str [],.slice 1 [],.int .i64 0,.int .i64 0,.int .i64 0,.str [],.str [],.slice 1 [],.int .i64 0,.int .i64 0,.int .i64 0,.slice 1 [],.nslice 7]
@[go_sem] abbrev z_28 : List V := [.int .i64 0,.int .i64 0,.int .i64 0,.slice 1 [],.int .i64 0,.str [],.str [],.slice 1 [],.nslice 36]
@[go_sem] abbrev z_29 : List V := [.int .i64 0,.int .i64 0,.int .i64 0,.int .i64 0,.int .i64 0,.int .i64 0,.int .i64 0,.int .i64 0,.str [],.nslice 1,.int .i64 0,.int .i64 0,.int .i64 0,.str [],.str [],.slice 1 [],.int .i64 0,.int .i64 0,.int .i64 0,.slice 1 []]
@[go_sem] abbrev z_30 : List V := [.str [],.str [],.int .i64 0,.bool false,.bool false]
@[go_sem] abbrev z_31 : List V := [.int .i64 0,.str [],.str [],.int .i64 0,.bool false,.bool false,.int .i64 0,.slice 9 [],.slice 5 [],.slice 3 [],.int .i64 0,.slice 5 [],.slice 3 [],.int .i64 0,.int .i64 0,.int .i64 0,.int .i64 0,.int .i64 0,.int .i64 0,.int .i64 0,.int .i64 0,.int .i64 0,.int .i64 0,.int .i64 0,.str [],.slice 1 [],.int .i64 0,.int .i64 0,.int .i64 0,.str [],.str [],.slice 1 [],.int .i64 0,.int .i64 0,.int .i64 0,.slice 1 [],.slice 7 [],.bool false]
@[go_sem] abbrev z_32 : List V := [.int .i64 0,.int .i64 0,.int .i64 0,.int .i64 0,.int .i64 0,.int .i64 0,.int .i64 0,.int .i64 0,.int .i64 0,.int .i64 0,.int .i64 0,.int .i64 0,.str [],.int .i64 0,.int .i64 0,.int .i64 0,.str [],.str [],.bool false,.str [],.int .i64 0,.int .i64 0,.int .i64 0,.str [],.int .i64 0,.int .i64 0,.int .i64 0,.int .i64 0,.int .i64 0,.bool false,.str [],.slice 2 [],.str [],.bool false,.nslice 5,.nslice 1]
@[go_sem] abbrev z_33 : List V := [.int .i64 0,.int .i64 0,.int .i64 0,.int .i64 0,.bool false,.str [],.nslice 2,.str [],.bool false]
@[go_sem] abbrev z_34 : List V := [.slice 38 [],.slice 18 [],.slice 1 [],.slice 1 []]
@[go_sem] abbrev z_35 : List V := [.int .i64 0,.int .i64 0,.slice 5 [],.slice 1 [],.int .i64 0,.int .i64 0,.int .i64 0,.str [],.str [],.bool false,.str [],.int .i64 0,.int .i64 0,.int .i64 0,.str [],.int .i64 0,.bool false,.int .i64 0]
@[go_sem] abbrev z_36 : List V := [.nslice 38,.nslice 18,.slice 1 [],.slice 1 []]
@[go_sem] abbrev z_37 : List V := [.int .i64 0,.int .i64 0,.int .i64 0,.int .i64 0,.int .i64 0,.int .i64 0,.str [],.str [],.bool false,.str [],.int .i64 0,.int .i64 0,.int .i64 0,.str [],.int .i64 0,.int .i64 0,.int .i64 0,.int .i64 0,.int .i64 0,.str [],.slice 1 []]
@[go_sem] abbrev z_38 : List V := [.int .i64 0,.str [],.str [],.int .i64 0,.bool false,.bool false,.int .i64 0,.slice 9 [],.slice 5 [],.slice 3 [],.int .i64 0,.slice 5 [],.slice 3 [],.int .i64 0,.int .i64 0,.int .i64 0,.int .i64 0,.int .i64 0,.int .i64 0,.int .i64 0,.int .i64 0,.int .i64 0,.int .i64 0,.int .i64 0,.str [],.slice 1 [],.int .i64 0,.int .i64 0,.int .i64 0,.str [],.str [],.slice 1 [],.int .i64 0,.int .i64 0,.int .i64 0,.slice 1 [],.slice 7 [],.bool false,.int .i64 0,.str [],.str [],.int .i64 0,.bool false,.bool false,.int .i64 0,.slice 9 [],.slice 5 [],.slice 3 [],.int .i64 0,.slice 5 [],.slice 3 [],.int .i64 0,.int .i64 0,.int .i64 0,.int .i64 0,.int .i64 0,.int .i64 0,.int .i64 0,.int .i64 0,.int .i64 0,.int .i64 0,.int .i64 0,.str [],.slice 1 [],.int .i64 0,.int .i64 0,.int .i64 0,.str [],.str [],.slice 1 [],.int .i64 0,.int .i64 0,.int .i64 0,.slice 1 [],.slice 7 [],.bool false,.int .i64 0,.str [],.str [],.int .i64 0,.bool false,.bool false,.int .i64 0,.slice 9 [],.slice 5 [],.slice 3 [],.int .i64 0,.slice 5 [],.slice 3 [],.int .i64 0,.int .i64 0,.int .i64 0,.int .i64 0,.int .i64 0,.int .i64 0,.int .i64 0,.int .i64 0,.int .i64 0,.int .i64 0,.int .i64 0,.str [],.slice 1 [],.int .i64 0,.int .i64 0,.int .i64 0,.str [],.str [],.slice 1 [],.int .i64 0,.int .i64 0,.int .i64 0,.slice 1 [],.slice 7 [],.bool false,.int .i64 0,.str [],.str [],.int .i64 0,.bool false,.bool false,.int .i64 0,.slice 9 [],.slice 5 [],.slice 3 [],.int .i64 0,.slice 5 [],.slice 3 [],.int .i64 0,.int .i64 0,.int .i64 0,.int .i64 0,.int .i64 0,.int .i64 0,.int .i64 0,.int .i64 0,.int .i64 0,.int .i64 0,.int .i64 0,.str [],.slice 1 [],.int .i64 0,.int .i64 0,.int .i64 0,.str [],.str [],.slice 1 [],.int .i64 0,.int .i64 0,.int .i64 0,.slice 1 [],.slice 7 [],.bool false,.int .i64 0,.int .i64 0,.slice 5 [],.slice 1 [],.int .i64 0,.int .i64 0,.int .i64 0,.str [],.str [],.bool false,.str [],.int .i64 0,.int .i64 0,.int .i64 0,.str [],.int .i64 0,.bool false,.int .i64 0,.int .i64 0,.int .i64 0,.slice 5 [],.slice 1 [],.int .i64 0,.int .i64 0,.int .i64 0,.str [],.str [],.bool false,.str [],.int .i64 0,.int .i64 0,.int .i64 0,.str [],.int .i64 0,.bool false,.int .i64 0,.int .i64 0,.int .i64 0,.slice 5 [],.slice 1 [],.int .i64 0,.int .i64 0,.int .i64 0,.str [],.str [],.bool false,.str [],.int .i64 0,.int .i64 0,.int .i64 0,.str [],.int .i64 0,.bool false,.int .i64 0,.int .i64 0,.int .i64 0,.slice 5 [],.slice 1 [],.int .i64 0,.int .i64 0,.int .i64 0,.str [],.str [],.bool false,.str [],.int .i64 0,.int .i64 0,.int .i64 0,.str [],.int .i64 0,.bool false,.int .i64 0,.int .i64 0,.int .i64 0,.slice 5 [],.slice 1 [],.int .i64 0,.int .i64 0,.int .i64 0,.str [],.str [],.bool false,.str [],.int .i64 0,.int .i64 0,.int .i64 0,.str [],.int .i64 0,.bool false,.int .i64 0,.int .i64 0,.int .i64 0,.slice 5 [],.slice 1 [],.int .i64 0,.int .i64 0,.int .i64 0,.str [],.str [],.bool false,.str [],.int .i64 0,.int .i64 0,.int .i64 0,.str [],.int .i64 0,.bool false,.int .i64 0,.int .i64 0,.int .i64 0,.slice 5 [],.slice 1 [],.int .i64 0,.int .i64 0,.int .i64 0,.str [],.str [],.bool false,.str [],.int .i64 0,.int .i64 0,.int .i64 0,.str [],.int .i64 0,.bool false,.int .i64 0,.int .i64 0,.int .i64 0,.slice 5 [],.slice 1 [],.int .i64 0,.int .i64 0,.int .i64 0,.str [],.str [],.bool false,.str [],.int .i64 0,.int .i64 0,.int .i64 0,.str [],.int .i64 0,.bool false,.int .i64 0,.int .i64 0,.int .i64 0,.int .i64 0,.int .i64 0,.slice 36 [],.slice 25 []]
@[go_sem] abbrev z_39 : List V := [.int .i64 0,.str [],.str [],.int .i64 0,.bool false,.bool false,.int .i64 0,.nslice 9,.slice 5 [],.nslice 3,.int .i64 0,.slice 5 [],.slice 3 [],.int .i64 0,.int .i64 0,.int .i64 0,.int .i64 0,.int .i64 0,.int .i64 0,.int .i64 0,.int .i64 0,.int .i64 0,.int .i64 0,.int .i64 0,.str [],.slice 1 [],.int .i64 0,.int .i64 0,.int .i64 0,.str [],.str [],.slice 1 [],.int .i64 0,.int .i64 0,.int .i64 0,.slice 1 [],.nslice 7,.bool false]
@[go_sem] abbrev z_40 : List V := [.bool false,.int .i64 0,.int .i64 0,.int .i64 0,.str [],.str [],.bool false,.str [],.int .i64 0,.int .i64 0,.int .i64 0,.str [],.int .i64 0,.bool false,.int .i64 0,.int .i64 0,.int .i64 0,.int .i64 0,.bool false,.str [],.slice 2 [],.str [],.bool false,.int .i64 0]
@[go_sem] abbrev z_41 : List V := [.int .i64 0,.bool false,.int .i64 0,.int .i64 0,.int .i64 0,.str [],.str [],.bool false,.str [],.int .i64 0,.int .i64 0,.int .i64 0,.str [],.int .i64 0,.bool false,.int .i64 0,.int .i64 0,.int .i64 0,.int .i64 0,.bool false,.str [],.slice 2 [],.str [],.bool false,.int .i64 0]
def l141_0 : C := .loop [] [] [5] [] (rs 12 (q3 (.bin .lss (.g 11) (.g 10))<|qe) <| sq (cd 12 .skip <| .exit 0) <| sq (bk 1 (rs 13 (qm 11<|q1 (.iad 5 (.g 9) (.g 11))<|qJ 5<|qG 5 z_0<|qV 4 0<|qs 5 5 3 2<|qe) <| i1 16 (qr 5 2<|qc 162<|qn<|yo<|qr 5 4<|qc 162<|qn<|zo 4<|yo<|qr 5 3<|qc 163<|qn<|zO 10<|qe) 31 (rs 0 (qF 2<|qe) .ret) <| i1 32 (qm 0<|qm 4<|q1 (.sl false 5 (.l 0) none (some (.l 1)))<|q1 (.fn 164 [.g 5] [5])<|q3 (.call (.k 165) .no none [.l 2,.l 3])<|qe) 36 (rs 0 (qF 2<|qe) .ret) <| r1 37 (qm 3<|qR 5 0 2<|q1 (.mks 2 1 z_1 [(0,.l 2)])<|q1 (.app 3 2 (.l 0) (.l 3))<|qv 3<|qe))) <| r1 42 (q1 (.bin .add (.g 11) (ci 1))<|qv 11<|qe))
def c141 : C := rs 0 (qF 2<|qe) <| i1 6 (qm 0<|qh false<|qK .gtr 8<|qe) 8 (rs 0 (qF 2<|qe) .ret) <| rs 3 (q3 (.mko 2)<|qe) <| sq (rs 9 (q3 (.mov (.g 0))<|qH false<|q3 (.mov (ci 0))<|qe) <| bk 0 l141_0) <| rs 43 (qm 3<|q1 (.call (.k 166) .borrow none [.l 0])<|qv 2<|qe) .ret
def F141 : F := mF 1 [.t 2] none c141
attribute [go_sem] c141 F141
def l144_0 : C := .loop [] [] [7] [] (rs 24 (q3 (.bin .lss (.g 23) (.g 22))<|qe) <| sq (cd 24 .skip <| .exit 0) <| sq (bk 1 (rs 25 (q1 (.iad 5 (.g 21) (.g 23))<|qJ 5<|qG 7 z_0<|qs 7 5 2 1<|qe) <| rs 27 (qm 1<|q1 (.bin .eql (.l 0) (.c (.str [])))<|yo<|qR 7 0 2<|qm 1<|qd 171<|zO 2<|qe) <| cd 34 (rs 35 (qb 7 5<|qt 4 5 0<|qT 5<|qe) .ret) .skip)) <| r1 36 (q1 (.bin .add (.g 23) (ci 1))<|qv 23<|qe))
def c144 : C := rs 0 (qG 4 z_0<|qF 5<|qe) <| i1 8 (qm 0<|qc 141<|qn<|yo<|qm 1<|q1 (.bin .neq (.l 4) (.c (.str [])))<|ya<|qm 1<|qc 170<|qn<|y0 3<|qa 6<|zO 3<|qe) 19 (rs 20 (q1 (.build z_0 [])<|qt 4 5 0<|qF 5<|qe) .ret) <| sq (rs 21 (q3 (.mov (.g 0))<|qH false<|q3 (.mov (ci 0))<|qe) <| bk 0 l144_0) <| rs 37 (q1 (.build z_0 [])<|qt 4 5 0<|qF 5<|qe) .ret
def F144 : F := mF 2 [.cell 4 (some 5),.t 5] none c144
attribute [go_sem] c144 F144
def l145_0 : C := .loop [] [] [7] [] (rs 14 (q3 (.bin .lss (.g 13) (.g 12))<|qe) <| sq (cd 14 .skip <| .exit 0) <| sq (bk 1 (rs 15 (q1 (.iad 5 (.g 11) (.g 13))<|qJ 5<|qG 7 z_0<|qs 7 5 2 1<|qe) <| rs 17 (qR 7 0 2<|qb 3 2<|q3 (.call (.k 172) .no none [.l 1,.l 2])<|qe) <| cd 20 (r1 21 (qm 5<|qb 7 5<|q1 (.mks 5 1 z_0 [(0,.l 1)])<|q1 (.app 5 5 (.l 0) (.l 2))<|qv 5<|qe)) .skip)) <| r1 25 (q1 (.bin .add (.g 13) (ci 1))<|qv 13<|qe))
def c145 : C := rs 0 (qB 3 1<|qS 4 5<|qe) <| i1 8 (qm 0<|qc 141<|qN<|qe) 10 (rs 0 (qS 4 5<|qe) .ret) <| rs 5 (q3 (.mko 5)<|qe) <| sq (rs 11 (q3 (.mov (.g 0))<|qH false<|q3 (.mov (ci 0))<|qe) <| bk 0 l145_0) <| rs 26 (qm 5<|qv 4<|qe) .ret
def F145 : F := mF 2 [.t 4] none c145
attribute [go_sem] c145 F145
def c148 : C := rs 0 (qG 4 z_0<|qF 5<|qe) <| rs 7 (qm 0<|qm 1<|qd 175<|qv 6<|qe) <| i1 10 (qm 0<|qc 141<|qn<|yo<|qm 6<|qk .lss 0<|zO 3<|qe) 16 (rs 17 (q1 (.build z_0 [])<|qt 4 5 0<|qF 5<|qe) .ret) <| rs 18 (qm 0<|qm 6<|qi 5<|qJ 5<|qt 4 5 3<|qT 5<|qe) .ret
def F148 : F := mF 2 [.cell 4 (some 5),.t 5] none c148
attribute [go_sem] c148 F148
def l153_0 : C := .loop [] [] [] [] (lq 11 (qm 5<|qm 0<|qh false<|qQ .lss 0<|qe) 14 0 <| sq (bk 1 (rt 17 (qm 0<|qm 5<|qi 5<|qJ 5<|qm 1<|qm 5<|qi 5<|qJ 5<|q3 (.eqa true [.s,.s,.i,.i,.i] (.l 3) (.l 7))<|qe) <| cd 25 (rs 0 (qF 4<|qe) .ret) .skip)) <| r1 15 (qm 5<|qk .add 1<|qv 5<|qe))
def c153 : C := rs 0 (qF 4<|qe) <| i1 6 (qm 0<|qh false<|qm 1<|qh false<|qQ .neq 1<|qe) 10 (rs 0 (qF 4<|qe) .ret) <| sq (rs 0 (qz 5 0<|qe) <| bk 0 l153_0) <| rs 0 (qT 4<|qe) .ret
def F153 : F := mF 2 [.t 4] none c153
attribute [go_sem] c153 F153
def c154 : C := rs 0 (qS 0 5<|qe) <| rs 1 (q1 (.build z_0 [(2,1,.c (.int .i64 1)),(3,1,.c (.int .i64 1)),(4,1,.c (.int .i64 1))])<|q1 (.mks 5 1 z_0 [(0,.l 0)])<|qv 0<|qe) .ret
def F154 : F := mF 0 [.t 0] none c154
attribute [go_sem] c154 F154
def c156 : C := rs 0 (qS 10 5<|qz 11 0<|qe) <| rs 18 (qm 0<|qm 1<|qm 4<|qC 177 (ls [0,1,2])<|q2 17 (.mov (.l 3))<|qx 0<|qy 1<|qw 12<|qw 13<|qe) <| sq (bk 0 (rs 25 (qm 3<|qc 162<|qn<|qv 24<|qe) <| cd 24 (rs 0 (qS 10 5<|qz 11 1<|qe) .ret) <| rs 29 (qm 13<|qk .neq 0<|qv 28<|qe) <| cd 28 (rs 31 (qm 13<|qS 10 5<|qw 11<|qe) .ret) <| rs 33 (qm 0<|qm 3<|qd 175<|qk .geq 0<|qv 32<|qe) <| cd 32 (rs 0 (qS 10 5<|qz 11 8<|qe) .ret) <| rs 38 (qm 0<|qh false<|qk .eql 8<|qv 37<|qe) <| cd 37 (rs 0 (qS 10 5<|qz 11 6<|qe) .ret) .skip)) <| rs 42 (qm 0<|qm 12<|qi 5<|qg 0<|qJ 2<|qm 2<|qd 178<|q2 41 (.mov (.l 6))<|qx 0<|qy 1<|qY 7 2<|qG 14 z_1<|qG 15 z_1<|qs 14 2 11 8<|qs 15 2 12 9<|qV 13 10<|qe) <| i1 52 (qm 13<|qK .neq 0<|qe) 53 (rs 54 (qm 13<|qS 10 5<|qw 11<|qe) .ret) <| rt 55 (qm 0<|q1 (.call (.k 179) .no (some 0) [.l 0])<|qm 12<|qk .add 1<|qb 15 2<|qm 3<|qm 0<|qm 12<|qi 5<|qg 3<|qj<|qm 4<|q1 (.build z_0 [(0,2,.l 4),(2,1,.l 5),(3,1,.l 10),(4,1,.l 11)])<|q1 (.mks 5 1 z_0 [(0,.l 12)])<|q1 (.ins 180 56 5 (.l 1) (.l 3) (.l 13))<|qv 16<|qe) <| rs 70 (qm 16<|qm 12<|qm 16<|qm 12<|qb 14 2<|qm 4<|q1 (.iad 5 (.l 0) (.l 1))<|qg 0<|q5 (.store (.e 56) 2 (.l 7) (.l 4))<|q1 (.iad 5 (.l 2) (.l 3))<|qg 4<|q5 (.store (.e 56) 1 (.l 10) (.l 5))<|qe) <| rs 80 (qm 16<|qv 10<|qz 11 0<|qe) .ret
def F156 : F := mF 5 [.t 10,.t 11] none c156
attribute [go_sem] c156 F156
def c157 : C := rs 0 (qS 8 5<|qz 9 0<|qe) <| rs 15 (qm 0<|qm 1<|qm 3<|qC 177 (ls [0,1,2])<|q2 14 (.mov (.l 3))<|qx 0<|qy 1<|qw 10<|qw 11<|qe) <| rs 21 (qm 0<|qm 2<|qd 175<|qv 12<|qe) <| sq (bk 0 (rs 25 (qm 2<|qc 162<|qn<|qv 24<|qe) <| cd 24 (rs 0 (qS 8 5<|qz 9 1<|qe) .ret) <| rs 29 (qm 11<|qk .neq 0<|qv 28<|qe) <| cd 28 (rs 31 (qm 11<|qS 8 5<|qw 9<|qe) .ret) <| rs 33 (qm 12<|qk .lss 0<|qv 32<|qe) <| cd 32 (rs 0 (qS 8 5<|qz 9 7<|qe) .ret) <| rt 36 (qm 12<|qm 10<|qk .add 1<|qq .neq 0<|yo<|qm 0<|qm 10<|qi 5<|qg 3<|qj<|qm 0<|qm 12<|qi 5<|qg 3<|qj<|qq .neq 9<|zo 4<|yo<|qm 3<|qm 0<|qm 12<|qi 5<|qg 4<|qj<|qq .leq 18<|zo 17<|qv 35<|qe) <| cd 35 (rs 0 (qS 8 5<|qz 9 9<|qe) .ret) .skip)) <| rs 62 (qm 0<|q1 (.call (.k 179) .no (some 0) [.l 0])<|qm 12<|qm 12<|qk .add 1<|q1 (.del 181 63 5 (.l 1) (.l 2) (.l 4))<|qv 13<|qe) <| rs 68 (qm 13<|qm 10<|qm 13<|qm 10<|qm 0<|qm 12<|qi 5<|qg 0<|qg 1<|qj<|qm 3<|q1 (.iad 5 (.l 0) (.l 1))<|qg 0<|qg 1<|q5 (.store (.e 67) 1 (.l 13) (.l 9))<|q1 (.iad 5 (.l 2) (.l 3))<|qg 4<|q5 (.store (.e 67) 1 (.l 16) (.l 10))<|qe) <| rs 84 (qm 13<|qv 8<|qz 9 0<|qe) .ret
def F157 : F := mF 4 [.t 8,.t 9] none c157
attribute [go_sem] c157 F157
def c159 : C := rs 0 (qS 8 5<|qz 9 0<|qe) <| rs 14 (qm 0<|qm 1<|qm 3<|qC 177 (ls [0,1,2])<|q2 13 (.mov (.l 3))<|qx 0<|qy 1<|qw 10<|qw 11<|qe) <| sq (bk 0 (rs 21 (qm 2<|qc 163<|qn<|qv 20<|qe) <| cd 20 (rs 0 (qS 8 5<|qz 9 1<|qe) .ret) <| rs 25 (qm 11<|qk .neq 0<|qv 24<|qe) <| cd 24 (rs 27 (qm 11<|qS 8 5<|qw 9<|qe) .ret) <| rs 29 (qm 0<|qm 10<|qi 5<|qg 3<|qj<|qm 2<|qq .eql 4<|qv 28<|qe) <| cd 28 (rs 0 (qS 8 5<|qz 9 8<|qe) .ret) .skip)) <| rs 36 (qm 0<|q1 (.call (.k 179) .no (some 0) [.l 0])<|qv 12<|qe) <| rs 38 (qm 12<|qm 10<|qm 12<|qm 10<|qm 2<|qm 3<|q1 (.iad 5 (.l 0) (.l 1))<|qg 3<|q5 (.store (.e 37) 1 (.l 7) (.l 4))<|q1 (.iad 5 (.l 2) (.l 3))<|qg 4<|q5 (.store (.e 37) 1 (.l 10) (.l 5))<|qe) <| rs 48 (qm 12<|qv 8<|qz 9 0<|qe) .ret
def F159 : F := mF 4 [.t 8,.t 9] none c159
attribute [go_sem] c159 F159
def c162 : C := rs 0 (qF 2<|qe) <| rs 3 (qm 0<|qk .geq 1<|ya<|qm 0<|qk .leq 1099511627776<|za 2<|qv 2<|qe) .ret
def F162 : F := mF 1 [.t 2] none c162
attribute [go_sem] c162 F162
def c163 : C := rs 0 (qF 2<|qe) <| rs 3 (qm 0<|qk .geq 1<|ya<|qm 0<|qk .leq 3<|za 2<|qv 2<|qe) .ret
def F163 : F := mF 1 [.t 2] none c163
attribute [go_sem] c163 F163
def c164 : C := rs 0 (qB 2 0<|qF 3<|qe) <| rs 4 (qr 2 2<|qf 1 2<|qj<|qq .eql 1<|qv 3<|qe) .ret
def F164 : F := mF 2 [.t 3] none c164
attribute [go_sem] c164 F164
def c165 : C := rs 0 (qF 4<|qe) <| rs 5 (qm 0<|qm 1<|qd 185<|qk .geq 0<|qv 4<|qe) .ret
def F165 : F := mF 2 [.t 4] none c165
attribute [go_sem] c165 F165
def l166_0 : C := .loop [] [] [5] [] (rs 9 (q3 (.bin .lss (.g 8) (.g 7))<|qe) <| sq (cd 9 .skip <| .exit 0) <| sq (bk 1 (rs 10 (qm 8<|q1 (.iad 2 (.g 6) (.g 8))<|qJ 2<|qG 5 z_1<|qV 4 0<|qs 5 2 3 2<|qe) <| i1 13 (qb 5 2<|qc 186<|qn<|yo<|qr 5 0<|qm 3<|qq .neq 5<|zo 3<|yo<|qm 4<|qk .gtr 0<|ya<|qm 3<|q1 (.bin .eql (.l 13) (.c (.str [])))<|y0 9<|qa 12<|zO 9<|qe) 29 (rs 0 (qF 2<|qe) .ret) <| r1 30 (qr 5 1<|qv 3<|qe))) <| r1 32 (q1 (.bin .add (.g 8) (ci 1))<|qv 8<|qe))
def c166 : C := rs 0 (qF 2<|qe) <| rs 0 (qE 3<|qe) <| sq (rs 6 (q3 (.mov (.g 0))<|qH false<|q3 (.mov (ci 0))<|qe) <| bk 0 l166_0) <| rs 33 (qm 0<|qh false<|qk .gtr 0<|ya<|qm 3<|q1 (.bin .eql (.l 4) (.c (.str [])))<|za 3<|qv 2<|qe) .ret
def F166 : F := mF 1 [.t 2] none c166
attribute [go_sem] c166 F166
def c171 : C := rs 0 (qB 2 0<|qF 4<|qe) <| rs 5 (qb 2 2<|qc 186<|ya<|qm 1<|qc 170<|za 2<|ya<|qr 2 0<|qm 1<|qd 192<|qk .leq 0<|za 6<|ya<|qr 2 1<|q1 (.bin .eql (.l 15) (.c (.str [])))<|yo<|qm 1<|qr 2 1<|qC 192 (ls [18,20])<|qk .lss 0<|y1 13<|qo 17<|za 13<|qv 4<|qe) .ret
def F171 : F := mF 2 [.t 4] none c171
attribute [go_sem] c171 F171
def c172 : C := rs 0 (qB 2 0<|qB 3 1<|qF 4<|qe) <| rs 5 (qb 2 2<|qc 186<|ya<|qb 3 2<|qc 186<|za 2<|ya<|qr 2 0<|qr 3 1<|qC 193 (ls [8,10])<|za 6<|ya<|qr 3 0<|qr 2 1<|qC 193 (ls [15,17])<|za 13<|qv 4<|qe) .ret
def F172 : F := mF 2 [.t 4] none c172
attribute [go_sem] c172 F172
def c175 : C := rs 0 (qB 3 1<|qz 4 0<|qe) <| rs 5 (qm 0<|q1 (.fn 194 [.g 3] [3])<|qd 185<|qv 4<|qe) .ret
def F175 : F := mF 2 [.t 4] none c175
attribute [go_sem] c175 F175
def c177 : C := rs 0 (qz 6 0<|qz 7 0<|qe) <| rs 9 (qm 0<|qm 1<|qd 175<|qv 8<|qe) <| sq (bk 0 (rs 13 (qm 0<|qc 141<|qn<|yo<|qm 2<|qc 162<|qn<|zo 3<|qv 12<|qe) <| cd 12 (rs 0 (qz 6 0<|qz 7 1<|qe) .ret) <| rs 22 (qm 8<|qk .lss 0<|qv 21<|qe) <| cd 21 (rs 0 (qz 6 0<|qz 7 7<|qe) .ret) <| rs 25 (qm 2<|qm 0<|qm 8<|qi 5<|qg 4<|qj<|qq .leq 0<|qv 24<|qe) <| cd 24 (rs 0 (qz 6 0<|qz 7 9<|qe) .ret) .skip)) <| rs 32 (qm 8<|qv 6<|qz 7 0<|qe) .ret
def F177 : F := mF 3 [.t 6,.t 7] none c177
attribute [go_sem] c177 F177
def c178 : C := rs 0 (qB 2 0<|qG 4 z_1<|qG 5 z_1<|qz 6 0<|qe) <| sq (bk 0 (rs 8 (qb 2 2<|qc 186<|qn<|yo<|qm 1<|qc 170<|qn<|zo 3<|qv 7<|qe) <| cd 7 (rs 16 (q1 (.build z_1 [])<|q1 (.build z_1 [])<|qt 4 2 0<|qt 5 2 1<|qz 6 1<|qe) .ret) <| rs 19 (qm 1<|qr 2 0<|qq .eql 0<|yo<|qb 2 2<|qm 1<|qd 171<|qn<|zo 4<|qv 18<|qe) <| cd 18 (rs 29 (q1 (.build z_1 [])<|q1 (.build z_1 [])<|qt 4 2 0<|qt 5 2 1<|qz 6 9<|qe) .ret) .skip)) <| rt 31 (qr 2 0<|qm 1<|q1 (.build z_1 [(0,1,.l 1),(1,1,.l 2)])<|qm 1<|qr 2 1<|q1 (.build z_1 [(0,1,.l 4),(1,1,.l 6)])<|qt 4 2 3<|qt 5 2 7<|qz 6 0<|qe) .ret
def F178 : F := mF 2 [.cell 4 (some 2),.cell 5 (some 2),.t 6] none c178
attribute [go_sem] c178 F178
def l185_0 : C := .loop [] [] [] [] (rs 9 (q3 (.bin .lss (.g 8) (.g 7))<|qe) <| sq (cd 9 .skip <| .exit 0) <| sq (bk 1 (rs 10 (qm 8<|qv 5<|qe) <| rs 11 (qm 1<|qm 0<|qm 5<|qi 5<|qJ 5<|q3 (.call (.v (.l 0)) .no none [.l 4])<|qe) <| cd 16 (rs 17 (qm 5<|qv 4<|qe) .ret) .skip)) <| r1 18 (q1 (.bin .add (.g 8) (ci 1))<|qv 8<|qe))
def c185 : C := rs 0 (qz 4 0<|qe) <| sq (rs 6 (qm 0<|qH false<|q3 (.mov (ci 0))<|qe) <| bk 0 l185_0) <| rs 0 (qz 4 (-1)<|qe) .ret
def F185 : F := mF 2 [.t 4] none c185
attribute [go_sem] c185 F185
def c186 : C := rs 0 (qB 1 0<|qF 2<|qe) <| i1 3 (qr 1 0<|q1 (.bin .neq (.l 1) (.c (.str [])))<|ya<|qr 1 0<|qc 170<|qn<|zA 3<|qe) 11 (rs 0 (qF 2<|qe) .ret) <| rs 12 (qr 1 1<|q1 (.bin .eql (.l 1) (.c (.str [])))<|yo<|qr 1 1<|qc 170<|ya<|qr 1 0<|qr 1 1<|qC 192 (ls [9,11])<|qk .lss 0<|y0 3<|qa 7<|zo 3<|qv 2<|qe) .ret
def F186 : F := mF 1 [.t 2] none c186
attribute [go_sem] c186 F186
def c191 : C := rs 0 (qF 4<|qe) <| rs 5 (qm 0<|q1 (.bin .geq (.l 0) (.c (.int .i32 33)))<|ya<|qm 0<|q1 (.bin .lss (.l 3) (.c (.int .i32 127)))<|yo<|qm 0<|q1 (.bin .gtr (.l 6) (.c (.int .i32 159)))<|y1 2<|qo 5<|za 2<|ya<|qm 0<|q1 (.bin .neq (.l 11) (.c (.int .i32 65533)))<|yo<|qm 1<|qk .eql 3<|y1 10<|qo 13<|za 10<|qv 4<|qe) .ret
def F191 : F := mF 2 [.t 4] none c191
attribute [go_sem] c191 F191
def l192_0 : C := .loop [] [] [] [] (lq 9 (qm 0<|q1 (.bin .neq (.l 0) (.c (.str [])))<|ya<|qm 1<|q1 (.bin .neq (.l 3) (.c (.str [])))<|zA 2<|qe) 14 0 <| bk 1 (rs 16 (qm 0<|qc 190<|q2 15 (.mov (.l 1))<|qx 0<|qy 1<|qw 5<|qw 6<|qe) <| rs 21 (qm 1<|qc 190<|q2 20 (.mov (.l 1))<|qx 0<|qy 1<|qw 7<|qw 8<|qe) <| sq (bk 2 (rs 26 (qm 5<|qm 7<|qq .lss 0<|qv 25<|qe) <| cd 25 (rs 0 (qz 4 (-1)<|qe) .ret) <| rs 30 (qm 5<|qm 7<|qq .gtr 0<|qv 29<|qe) <| cd 29 (rs 0 (qz 4 1<|qe) .ret) .skip)) <| r2 33 (qm 0<|qm 6<|q1 (.sl true 0 (.l 0) (some (.l 1)) none)<|qm 1<|qm 8<|q1 (.sl true 0 (.l 3) (some (.l 4)) none)<|qV 0 2<|qw 1<|qe)))
def c192 : C := rs 0 (qz 4 0<|qe) <| sq (bk 0 l192_0) <| sq (bk 3 (rs 40 (qm 0<|q1 (.bin .neq (.l 0) (.c (.str [])))<|qv 39<|qe) <| cd 39 (rs 0 (qz 4 1<|qe) .ret) <| rs 43 (qm 1<|q1 (.bin .neq (.l 0) (.c (.str [])))<|qv 42<|qe) <| cd 42 (rs 0 (qz 4 (-1)<|qe) .ret) .skip)) <| rs 0 (qz 4 0<|qe) .ret
def F192 : F := mF 2 [.t 4] none c192
attribute [go_sem] c192 F192
def c193 : C := rs 0 (qF 4<|qe) <| rs 5 (qm 1<|q1 (.bin .eql (.l 0) (.c (.str [])))<|yo<|qm 0<|qm 1<|qd 192<|qk .lss 0<|zo 2<|qv 4<|qe) .ret
def F193 : F := mF 2 [.t 4] none c193
attribute [go_sem] c193 F193
def c194 : C := rs 0 (qB 2 0<|qF 3<|qe) <| rs 4 (qr 2 2<|q1 (.load (.c) none (.g 1))<|qq .eql 1<|qv 3<|qe) .ret
def F194 : F := mF 2 [.t 3] none c194
attribute [go_sem] c194 F194
def c3 : C := rs 0 (qB 3 1<|qS 4 5<|qz 5 0<|qe) <| sq (bk 0 (rs 7 (qm 0<|qc 7<|qn<|yo<|qb 3 5<|qc 22<|qn<|zo 3<|qv 6<|qe) <| cd 6 (rs 0 (qS 4 5<|qz 5 1<|qe) .ret) <| rt 16 (qm 0<|qh false<|qk .gtr 0<|ya<|qm 0<|qm 0<|qh false<|qk .sub 1<|q1 (.iad 5 (.l 4) (.l 7))<|qg 0<|qJ 3<|qR 3 0 3<|qC 15 (ls [10,12])<|qk .geq 0<|za 3<|qv 15<|qe) <| cd 15 (rs 0 (qS 4 5<|qz 5 9<|qe) .ret) <| rs 33 (qm 0<|qh false<|qk .eql 64<|qv 32<|qe) <| cd 32 (rs 0 (qS 4 5<|qz 5 6<|qe) .ret) .skip)) <| rt 36 (qm 0<|q1 (.call (.k 23) .no (some 0) [.l 0])<|qb 3 5<|q1 (.mks 5 1 z_2 [(0,.l 2)])<|q1 (.app 37 5 (.l 1) (.l 3))<|qv 4<|qz 5 0<|qe) .ret
def F3 : F := mF 2 [.t 4,.t 5] none c3
attribute [go_sem] c3 F3
def l7_0 : C := .loop [] [] [4] [] (rs 8 (q3 (.bin .lss (.g 7) (.g 6))<|qe) <| sq (cd 8 .skip <| .exit 0) <| sq (bk 1 (rs 9 (qm 7<|q1 (.iad 5 (.g 5) (.g 7))<|qJ 5<|qG 4 z_2<|qV 3 0<|qs 4 5 3 2<|qe) <| rt 12 (qb 4 5<|qc 22<|qn<|yo<|qm 3<|qk .gtr 0<|ya<|qm 0<|qm 3<|qk .sub 1<|q1 (.iad 5 (.l 7) (.l 9))<|qg 0<|qJ 3<|qR 4 0 3<|qC 15 (ls [12,14])<|qk .geq 0<|y0 3<|qa 6<|zO 3<|qe) <| cd 30 (rs 0 (qF 2<|qe) .ret) .skip)) <| r1 31 (q1 (.bin .add (.g 7) (ci 1))<|qv 7<|qe))
def c7 : C := rs 0 (qF 2<|qe) <| sq (rs 5 (q3 (.mov (.g 0))<|qH false<|q3 (.mov (ci 0))<|qe) <| bk 0 l7_0) <| rs 32 (qm 0<|qh false<|qk .leq 64<|qv 2<|qe) .ret
def F7 : F := mF 1 [.t 2] none c7
attribute [go_sem] c7 F7
def c10 : C := rs 0 (qB 3 1<|qG 4 z_2<|qF 5<|qe) <| i1 7 (qm 0<|qc 7<|qN<|qe) 9 (rs 10 (q1 (.build z_2 [])<|qt 4 5 0<|qF 5<|qe) .ret) <| rs 11 (qm 0<|qb 3 3<|qd 25<|qv 6<|qe) <| i1 14 (qm 6<|qK .eql 0<|qe) 15 (rs 16 (q1 (.build z_2 [])<|qt 4 5 0<|qF 5<|qe) .ret) <| rs 17 (qm 0<|qm 6<|qk .sub 1<|q1 (.iad 5 (.l 0) (.l 2))<|qJ 5<|qt 4 5 4<|qT 5<|qe) .ret
def F10 : F := mF 2 [.cell 4 (some 5),.t 5] none c10
attribute [go_sem] c10 F10
def c12 : C := rs 0 (qB 3 1<|qE 4<|qF 5<|qe) <| rs 9 (qm 0<|qb 3 3<|qd 10<|q2 8 (.mov (.l 2))<|qx 0<|qy 1<|qG 6 z_2<|qs 6 5 6 4<|qV 7 5<|qe) <| rt 14 (qr 6 4<|qm 7<|ya<|qr 6 3<|qn<|za 3<|qV 4 1<|qw 5<|qe) .ret
def F12 : F := mF 2 [.t 4,.t 5] none c12
attribute [go_sem] c12 F12
def c15 : C := rs 0 (qB 2 0<|qB 3 1<|qz 4 0<|qe) <| rt 5 (qr 2 0<|qr 3 0<|qC 26 (ls [1,3])<|qr 2 1<|qr 3 1<|qC 26 (ls [6,8])<|qr 2 2<|qr 3 2<|qC 26 (ls [11,13])<|q1 (.mks 1 3 [.int .i64 0] [(0,.l 4),(1,.l 9),(2,.l 14)])<|qc 27<|qv 4<|qe) .ret
def F15 : F := mF 2 [.t 4] none c15
attribute [go_sem] c15 F15
def c17 : C := rs 0 (qB 3 1<|qS 4 5<|qe) <| i1 6 (qm 0<|qc 7<|qN<|qe) 8 (rs 0 (qS 4 5<|qe) .ret) <| rs 9 (qm 0<|qb 3 3<|qd 25<|qv 5<|qe) <| i1 12 (qm 5<|qk .gtr 0<|ya<|qm 0<|qm 5<|qk .sub 1<|q1 (.iad 5 (.l 3) (.l 5))<|qg 3<|qj<|qn<|zA 2<|qe) 22 (r1 23 (qm 5<|qk .sub 1<|qv 5<|qe)) <| rs 25 (qm 0<|qm 5<|q1 (.sl false 5 (.l 0) (some (.l 1)) none)<|qc 23<|qv 4<|qe) .ret
def F17 : F := mF 2 [.t 4] none c17
attribute [go_sem] c17 F17
def c21 : C := rs 0 (qB 2 0<|qB 3 1<|qG 4 z_3<|qe) <| i1 5 (qb 2 3<|qb 3 3<|qd 15<|qK .lss 0<|qe) 8 (rs 9 (qb 3 3<|qt 4 3 0<|qe) .ret) <| rs 10 (qb 2 3<|qt 4 3 0<|qe) .ret
def F21 : F := mF 2 [.cell 4 (some 3)] none c21
attribute [go_sem] c21 F21
def c22 : C := rs 0 (qB 1 0<|qF 2<|qe) <| rs 3 (qR 1 0 3<|qc 28<|ya<|qr 1 4<|qh true<|qk .leq 16<|za 3<|ya<|qr 1 3<|qn<|yo<|qr 1 4<|q1 (.bin .eql (.l 15) (.c (.str [])))<|y1 9<|qo 13<|za 9<|qv 2<|qe) .ret
def F22 : F := mF 1 [.t 2] none c22
attribute [go_sem] c22 F22
def c25 : C := rs 0 (qB 3 1<|qz 4 0<|qe) <| rs 8 (qm 0<|qb 3 3<|qC 29 [.l 0,.l 1,.f 30]<|q2 7 (.mov (.l 2))<|qx 0<|qy 1<|qw 5<|qw 6<|qe) <| i1 13 (q3 (.mov (.g 6))<|qe) 13 (r1 14 (qm 5<|qk .add 1<|qv 5<|qe)) <| rs 16 (qm 5<|qv 4<|qe) .ret
def F25 : F := mF 2 [.t 4] none c25
attribute [go_sem] c25 F25
def c26 : C := rs 0 (qz 4 0<|qe) <| rs 7 (qm 0<|qc 31<|qv 5<|qe) <| rs 9 (qm 1<|qc 31<|qv 6<|qe) <| i1 11 (q3 (.mov (.g 5))<|qe) 11 (i1 12 (q3 (.mov (.g 6))<|qe) 12 (rs 0 (qz 4 0<|qe) .ret) <| rs 0 (qz 4 (-1)<|qe) .ret) <| i1 13 (q3 (.mov (.g 6))<|qe) 13 (rs 0 (qz 4 1<|qe) .ret) <| i1 14 (qm 0<|qm 1<|qQ .lss 0<|qe) 16 (rs 0 (qz 4 (-1)<|qe) .ret) <| i1 17 (qm 0<|qm 1<|qQ .gtr 0<|qe) 19 (rs 0 (qz 4 1<|qe) .ret) <| rs 0 (qz 4 0<|qe) .ret
def F26 : F := mF 2 [.t 4] none c26
attribute [go_sem] c26 F26
def l27_0 : C := .loop [] [] [] [] (rs 9 (q3 (.bin .lss (.g 8) (.g 7))<|qe) <| sq (cd 9 .skip <| .exit 0) <| sq (bk 1 (rs 10 (q1 (.iad 1 (.g 6) (.g 8))<|qj<|qv 5<|qe) <| rs 12 (qm 5<|qm 3<|qQ .neq 0<|qe) <| cd 14 (rs 15 (qm 5<|qv 2<|qe) .ret) .skip)) <| r1 16 (q1 (.bin .add (.g 8) (ci 1))<|qv 8<|qe))
def c27 : C := rs 0 (qz 2 0<|qe) <| rs 0 (qz 3 0<|qe) <| sq (rs 6 (q3 (.mov (.g 0))<|qH false<|q3 (.mov (ci 0))<|qe) <| bk 0 l27_0) <| rs 17 (qm 3<|qv 2<|qe) .ret
def F27 : F := mF 1 [.t 2] none c27
attribute [go_sem] c27 F27
def c28 : C := rs 0 (qB 1 0<|qF 2<|qe) <| rs 3 (qr 1 0<|qC 32 [.l 1,ci 1099511627776]<|ya<|qr 1 1<|qC 32 [.l 5,ci 1048576]<|za 3<|ya<|qr 1 2<|qC 32 [.l 10,ci 255]<|za 8<|qv 2<|qe) .ret
def F28 : F := mF 1 [.t 2] none c28
attribute [go_sem] c28 F28
def l29_0 : C := .loop [] [] [] [] (lq 15 (qm 9<|qm 10<|qQ .lss 0<|qe) 17 0 <| bk 1 (rs 18 (qm 9<|qm 10<|qq .add 0<|q1 (.conv (.int .u64) (.l 2))<|q1 (.sh .shr (.l 3) (.c (.int .u64 1)))<|q1 (.conv (.int .i64) (.l 4))<|qv 11<|qe) <| rt 24 (qm 2<|qm 0<|qm 11<|qi 5<|qJ 5<|qb 4 3<|q1 (.call (.v (.l 0)) .no none [.l 4,.l 5])<|qK .lss 0<|qe) <| cd 31 (r1 32 (qm 11<|qk .add 1<|qv 9<|qe)) <| r1 34 (qm 11<|qv 10<|qe)))
def c29 : C := rs 0 (qB 4 1<|qz 6 0<|qF 7<|qe) <| rs 12 (qm 0<|qh false<|qv 8<|qe) <| rs 14 (qm 8<|qz 9 0<|qw 10<|qe) <| sq (bk 0 l29_0) <| rt 35 (qm 9<|qm 9<|qm 8<|qq .lss 1<|ya<|qm 2<|qm 0<|qm 9<|qi 5<|qJ 5<|qb 4 3<|q1 (.call (.v (.l 5)) .no none [.l 9,.l 10])<|qk .eql 0<|za 4<|qV 6 0<|qw 7<|qe) .ret
def F29 : F := mF 3 [.t 6,.t 7] none c29
attribute [go_sem] c29 F29
def c30 : C := rs 0 (qB 2 0<|qB 3 1<|qz 4 0<|qe) <| rs 5 (qR 2 0 3<|qb 3 3<|qd 15<|qv 4<|qe) .ret
def F30 : F := mF 2 [.t 4] none c30
attribute [go_sem] c30 F30
def c31 : C := rs 0 (qF 2<|qe) <| rs 3 (qm 0<|qm 0<|qq .neq 0<|qv 2<|qe) .ret
def F31 : F := mF 1 [.t 2] none c31
attribute [go_sem] c31 F31
def c32 : C := rs 0 (qF 4<|qe) <| rs 5 (qm 0<|qk .geq 0<|ya<|qm 0<|qm 1<|qq .leq 3<|za 2<|qv 4<|qe) .ret
def F32 : F := mF 2 [.t 4] none c32
attribute [go_sem] c32 F32
def l81_0 : C := .loop [] [] [5] [] (rs 9 (q3 (.bin .lss (.g 8) (.g 7))<|qe) <| sq (cd 9 .skip <| .exit 0) <| sq (bk 1 (rs 10 (q1 (.iad 11 (.g 6) (.g 8))<|qJ 11<|qG 5 z_4<|qs 5 11 2 1<|qe) <| i1 12 (qr 5 0<|qm 3<|qq .leq 1<|yo<|qr 5 0<|qc 97<|qn<|zo 4<|yo<|qr 5 1<|qc 97<|qn<|zo 10<|yo<|qR 5 2 9<|qc 98<|qn<|zO 16<|qe) 33 (rs 0 (qF 2<|qe) .ret) <| r1 34 (qr 5 0<|qv 3<|qe))) <| r1 36 (q1 (.bin .add (.g 8) (ci 1))<|qv 8<|qe))
def c81 : C := rs 0 (qF 2<|qe) <| rs 0 (qz 3 0<|qe) <| sq (rs 6 (q3 (.mov (.g 0))<|qH false<|q3 (.mov (ci 0))<|qe) <| bk 0 l81_0) <| rs 37 (qm 0<|qh false<|qk .leq 8<|qv 2<|qe) .ret
def F81 : F := mF 1 [.t 2] none c81
attribute [go_sem] c81 F81
def c82 : C := rs 0 (qz 6 0<|qe) <| i1 9 (qm 0<|qc 81<|qn<|yo<|qm 1<|qc 97<|qn<|zo 3<|yo<|qm 2<|qc 97<|qn<|zO 8<|qe) 21 (rs 0 (qz 6 0<|qe) .ret) <| rs 23 (qm 0<|qm 1<|qd 84<|q2 22 (.mov (.l 2))<|qx 0<|qy 1<|qG 7 z_4<|qs 7 11 6 4<|qV 8 5<|qe) <| sq (bk 0 (rs 29 (qm 8<|qn<|yo<|qm 2<|qr 7 1<|qq .gtr 3<|zo 2<|qv 28<|qe) <| cd 28 (rs 0 (qz 6 1<|qe) .ret) <| rs 38 (qm 2<|qr 7 1<|qq .eql 0<|qv 37<|qe) <| cd 37 (rs 0 (qz 6 2<|qe) .ret) .skip)) <| rs 0 (qz 6 3<|qe) .ret
def F82 : F := mF 3 [.t 6] none c82
attribute [go_sem] c82 F82
def c84 : C := rs 0 (qG 4 z_4<|qF 5<|qe) <| i1 8 (qm 0<|qc 81<|qN<|qe) 10 (rs 11 (q1 (.build z_4 [])<|qt 4 11 0<|qF 5<|qe) .ret) <| rs 13 (qm 0<|qm 1<|qd 100<|q2 12 (.mov (.l 2))<|qx 0<|qy 1<|qw 6<|qw 7<|qe) <| i1 18 (qm 7<|qN<|qe) 19 (rs 20 (q1 (.build z_4 [])<|qt 4 11 0<|qF 5<|qe) .ret) <| rs 21 (qm 0<|qm 6<|qi 11<|qJ 11<|qt 4 11 3<|qT 5<|qe) .ret
def F84 : F := mF 2 [.cell 4 (some 11),.t 5] none c84
attribute [go_sem] c84 F84
def c88 : C := rs 0 (qB 3 1<|qS 4 11<|qz 5 0<|qe) <| i1 9 (qm 0<|qc 81<|qn<|yo<|qb 3 11<|q1 (.mks 11 1 z_4 [(0,.l 4)])<|qc 81<|qn<|zO 3<|qe) 17 (rs 0 (qS 4 11<|qz 5 1<|qe) .ret) <| rs 19 (qm 0<|qr 3 0<|qC 100 (ls [0,2])<|q2 18 (.mov (.l 3))<|qx 0<|qy 1<|qw 6<|qw 7<|qe) <| sq (bk 0 (rt 26 (qm 7<|ya<|qm 0<|qm 6<|qi 11<|qg 1<|qj<|qr 3 1<|qq .geq 6<|za 1<|qv 25<|qe) <| cd 25 (rs 0 (qS 4 11<|qz 5 9<|qe) .ret) <| rs 38 (qm 7<|qn<|ya<|qm 0<|qh false<|qk .eql 8<|za 2<|qv 37<|qe) <| cd 37 (rs 0 (qS 4 11<|qz 5 6<|qe) .ret) .skip)) <| rs 45 (qm 0<|q1 (.call (.k 102) .no (some 0) [.l 0])<|qv 8<|qe) <| i1 47 (q3 (.mov (.g 7))<|qe) 47 (rs 48 (qm 8<|qm 6<|qb 3 11<|q1 (.iad 11 (.l 0) (.l 1))<|q5 (.store (.e 46) 11 (.l 3) (.l 2))<|qe) <| rs 52 (qm 8<|qv 4<|qz 5 0<|qe) .ret) <| rs 53 (qm 8<|qm 6<|qb 3 11<|q1 (.mks 11 1 z_4 [(0,.l 2)])<|q1 (.ins 103 46 11 (.l 0) (.l 1) (.l 3))<|qv 4<|qz 5 0<|qe) .ret
def F88 : F := mF 2 [.t 4,.t 5] none c88
attribute [go_sem] c88 F88
def l91_0 : C := .loop [] [] [] [] (lq 15 (qm 0<|qh false<|qk .gtr 0<|yo<|qm 1<|qh false<|qk .gtr 0<|zO 3<|qe) 22 0 <| bk 1 (bk 2 (rt 34 (qm 1<|qh false<|qk .eql 0<|yo<|qm 0<|qh false<|qk .gtr 0<|ya<|qm 0<|q1 (.iad 11 (.l 8) (ci 0))<|qg 0<|qj<|qm 1<|q1 (.iad 11 (.l 12) (ci 0))<|qg 0<|qj<|qq .lss 11<|y0 3<|qa 7<|zo 3<|qv 33<|qe) <| cd 33 (r2 53 (qm 6<|qm 0<|q1 (.iad 11 (.l 1) (ci 0))<|qJ 11<|q1 (.mks 11 1 z_4 [(0,.l 3)])<|q1 (.app 6 11 (.l 0) (.l 4))<|qm 0<|q1 (.sl false 11 (.l 6) (some (ci 1)) none)<|qV 6 5<|qw 0<|qe)) <| rt 62 (qm 0<|qh false<|qk .eql 0<|yo<|qm 1<|q1 (.iad 11 (.l 4) (ci 0))<|qg 0<|qj<|qm 0<|q1 (.iad 11 (.l 8) (ci 0))<|qg 0<|qj<|qq .lss 7<|zo 3<|qv 61<|qe) <| cd 61 (r2 76 (qm 6<|qm 1<|q1 (.iad 11 (.l 1) (ci 0))<|qJ 11<|q1 (.mks 11 1 z_4 [(0,.l 3)])<|q1 (.app 6 11 (.l 0) (.l 4))<|qm 1<|q1 (.sl false 11 (.l 6) (some (ci 1)) none)<|qV 6 5<|qw 1<|qe)) <| rt 85 (qm 0<|q1 (.iad 11 (.l 0) (ci 0))<|qg 1<|qj<|qm 1<|q1 (.iad 11 (.l 4) (ci 0))<|qg 1<|qj<|qq .geq 3<|qv 84<|qe) <| cd 84 (r2 94 (qm 6<|qm 0<|q1 (.iad 11 (.l 1) (ci 0))<|qJ 11<|q1 (.mks 11 1 z_4 [(0,.l 3)])<|q1 (.app 6 11 (.l 0) (.l 4))<|qm 0<|q1 (.sl false 11 (.l 6) (some (ci 1)) none)<|qm 1<|q1 (.sl false 11 (.l 8) (some (ci 1)) none)<|qV 6 5<|qV 0 7<|qV 1 9<|qe)) <| r2 23 (qm 6<|qm 1<|q1 (.iad 11 (.l 1) (ci 0))<|qJ 11<|q1 (.mks 11 1 z_4 [(0,.l 3)])<|q1 (.app 6 11 (.l 0) (.l 4))<|qm 0<|q1 (.sl false 11 (.l 6) (some (ci 1)) none)<|qm 1<|q1 (.sl false 11 (.l 8) (some (ci 1)) none)<|qV 6 5<|qV 0 7<|qV 1 9<|qe))))
def c91 : C := rs 0 (qS 4 11<|qz 5 0<|qe) <| i1 7 (qm 0<|qc 81<|qn<|yo<|qm 1<|qc 81<|qn<|zO 3<|qe) 14 (rs 0 (qS 4 11<|qz 5 1<|qe) .ret) <| rs 6 (q3 (.mko 11)<|qe) <| sq (bk 0 l91_0) <| i1 104 (qm 6<|qh false<|qK .gtr 8<|qe) 106 (rs 0 (qS 4 11<|qz 5 6<|qe) .ret) <| rs 107 (qm 6<|qv 4<|qz 5 0<|qe) .ret
def F91 : F := mF 2 [.t 4,.t 5] none c91
attribute [go_sem] c91 F91
def c97 : C := rs 0 (qF 2<|qe) <| rs 3 (qm 0<|qk .geq 1<|ya<|qm 0<|qk .leq 1099511627776<|za 2<|qv 2<|qe) .ret
def F97 : F := mF 1 [.t 2] none c97
attribute [go_sem] c97 F97
def c98 : C := rs 0 (qB 1 0<|qF 2<|qe) <| rs 3 (qr 1 0<|qk .geq 0<|ya<|qr 1 0<|qk .leq 16<|za 3<|ya<|qR 1 1 3<|qc 28<|za 8<|ya<|qr 1 5<|qh true<|qk .leq 16<|za 13<|ya<|qr 1 6<|qh false<|qk .eql 0<|za 19<|ya<|qr 1 7<|q1 (.bin .eql (.l 27) (.c (.str [])))<|za 25<|ya<|qr 1 8<|qn<|za 30<|qv 2<|qe) .ret
def F98 : F := mF 1 [.t 2] none c98
attribute [go_sem] c98 F98
def c100 : C := rs 0 (qB 3 1<|qz 4 0<|qF 5<|qe) <| rs 7 (qm 0<|q1 (.fn 105 [.g 3] [3])<|qd 106<|qv 6<|qe) <| i1 10 (qm 6<|qK .lss 0<|qe) 11 (rs 12 (qm 0<|qh false<|qv 4<|qF 5<|qe) .ret) <| rt 14 (qm 6<|qm 0<|qm 6<|qi 11<|qg 0<|qj<|q1 (.load (.v 3) none (.g 3))<|qq .eql 5<|qV 4 0<|qw 5<|qe) .ret
def F100 : F := mF 2 [.t 4,.t 5] none c100
attribute [go_sem] c100 F100
def l101_0 : C := .loop [] [] [] [] (lq 13 (qm 5<|qr 2 6<|qh false<|qQ .lss 0<|qe) 17 0 <| sq (bk 1 (rt 20 (qr 2 6<|qm 5<|qi 2<|qJ 2<|qr 3 6<|qm 5<|qi 2<|qJ 2<|q3 (.eqa true [.s,.s] (.l 4) (.l 9))<|qe) <| cd 30 (rs 0 (qF 4<|qe) .ret) .skip)) <| r1 18 (qm 5<|qk .add 1<|qv 5<|qe))
def c101 : C := rs 0 (qB 2 0<|qB 3 1<|qF 4<|qe) <| i1 6 (qr 2 6<|qh false<|qr 3 6<|qh false<|qQ .neq 2<|qe) 12 (rs 0 (qF 4<|qe) .ret) <| sq (rs 0 (qz 5 0<|qe) <| bk 0 l101_0) <| rs 31 (qr 2 0<|qr 3 0<|qq .eql 1<|ya<|qR 2 1 3<|qR 3 1 3<|q1 (.eqa false [.i,.i,.i] (.l 7) (.l 9))<|za 5<|ya<|qr 2 4<|qr 3 4<|q1 (.eqb false (.l 14) (.l 16))<|za 12<|ya<|qr 2 5<|qr 3 5<|qq .eql 21<|za 19<|ya<|qr 2 7<|qr 3 7<|qq .eql 28<|za 26<|ya<|qr 2 8<|qr 3 8<|q1 (.eqb false (.l 35) (.l 37))<|za 33<|qv 4<|qe) .ret
def F101 : F := mF 2 [.t 4] none c101
attribute [go_sem] c101 F101
def c105 : C := rs 0 (qB 2 0<|qF 3<|qe) <| rs 4 (qr 2 0<|q1 (.load (.c) none (.g 1))<|qq .geq 1<|qv 3<|qe) .ret
def F105 : F := mF 2 [.t 3] none c105
attribute [go_sem] c105 F105
def l106_0 : C := .loop [] [] [] [] (rs 9 (q3 (.bin .lss (.g 8) (.g 7))<|qe) <| sq (cd 9 .skip <| .exit 0) <| sq (bk 1 (rs 10 (qm 8<|qv 5<|qe) <| rs 11 (qm 1<|qm 0<|qm 5<|qi 11<|qJ 11<|q3 (.call (.v (.l 0)) .no none [.l 4])<|qe) <| cd 16 (rs 17 (qm 5<|qv 4<|qe) .ret) .skip)) <| r1 18 (q1 (.bin .add (.g 8) (ci 1))<|qv 8<|qe))
def c106 : C := rs 0 (qz 4 0<|qe) <| sq (rs 6 (qm 0<|qH false<|q3 (.mov (ci 0))<|qe) <| bk 0 l106_0) <| rs 0 (qz 4 (-1)<|qe) .ret
def F106 : F := mF 2 [.t 4] none c106
attribute [go_sem] c106 F106
def c39 : C := rs 0 (qB 1 0<|qF 2<|qe) <| i1 3 (qr 1 0<|qk .lss 1<|yo<|qr 1 0<|qk .gtr 255<|zo 3<|yo<|qr 1 1<|qC 63 [.l 10,ci 0]<|qn<|zo 8<|yo<|qr 1 3<|qC 63 [.l 16,ci 0]<|qn<|zo 14<|yo<|qr 1 2<|qc 64<|qn<|zo 20<|yo<|qr 1 6<|qc 64<|qn<|zO 26<|qe) 34 (rs 0 (qF 2<|qe) .ret) <| i1 35 (qr 1 2<|qh false<|qk .gtr 0<|ya<|qr 1 2<|qr 1 0<|qC 65 (ls [6,8])<|qn<|zA 4<|qe) 46 (rs 0 (qF 2<|qe) .ret) <| i1 47 (qr 1 6<|q1 (.fn 66 [.g 1] [1])<|q3 (.call (.k 67) .no none [.l 1,.l 2])<|qe) 50 (rs 0 (qF 2<|qe) .ret) <| i1 51 (qb 1 7<|qc 68<|qN<|qe) 53 (rs 54 (qr 1 6<|qh false<|qk .eql 0<|ya<|qr 1 4<|qr 1 5<|qq .eql 6<|za 4<|qv 2<|qe) .ret) <| rs 65 (qr 1 6<|qr 1 0<|qC 65 (ls [1,3])<|ya<|qr 1 6<|qh false<|qr 1 2<|qh false<|qq .lss 8<|yo<|qr 1 4<|qr 1 5<|qq .eql 15<|y1 5<|qo 13<|za 5<|qv 2<|qe) .ret
def F39 : F := mF 1 [.t 2] none c39
attribute [go_sem] c39 F39
def c40 : C := rs 0 (qB 1 0<|qF 2<|qe) <| rs 3 (qb 1 7<|qc 39<|ya<|qb 1 7<|qc 68<|za 2<|qv 2<|qe) .ret
def F40 : F := mF 1 [.t 2] none c40
attribute [go_sem] c40 F40
def c41 : C := rs 0 (qB 1 0<|qF 2<|qe) <| rs 3 (qb 1 7<|qc 40<|ya<|qr 1 6<|qh false<|qr 1 2<|qh false<|qq .lss 5<|za 2<|qv 2<|qe) .ret
def F41 : F := mF 1 [.t 2] none c41
attribute [go_sem] c41 F41
def c43 : C := rs 0 (qG 6 z_5<|qz 7 0<|qe) <| rs 9 (qm 0<|qm 1<|qc 69<|qm 2<|qm 2<|q1 (.build z_5 [(0,1,.l 0),(1,1,.c (.int .i64 1)),(2,1,.l 2),(3,1,.c (.int .i64 1)),(4,1,.l 3),(5,1,.l 4)])<|qG 8 z_5<|qs 8 7 6 5<|qe) <| i1 15 (qb 8 7<|q3 (.call (.k 68) .no none [.l 0])<|qe) 16 (r1 17 (qm 1<|qc 69<|qf 8 6<|qs 8 1 2 1<|qe)) <| i1 20 (qm 1<|qh false<|qk .eql 0<|yo<|qb 8 7<|qc 39<|qn<|zO 3<|qe) 27 (rs 28 (q1 (.build z_5 [])<|qt 6 7 0<|qz 7 1<|qe) .ret) <| rs 29 (qb 8 7<|qt 6 7 0<|qz 7 0<|qe) .ret
def F43 : F := mF 3 [.cell 6 (some 7),.t 7] none c43
attribute [go_sem] c43 F43
def c44 : C := rs 0 (qG 6 z_5<|qz 7 0<|qe) <| i1 9 (qm 0<|qk .lss 1<|yo<|qm 0<|qk .gtr 255<|zo 2<|yo<|qm 1<|qc 61<|qn<|zo 6<|yo<|qm 1<|qm 0<|qd 62<|qn<|zO 11<|qe) 25 (rs 26 (q1 (.build z_5 [])<|qt 6 7 0<|qz 7 1<|qe) .ret) <| rs 27 (qm 0<|qm 1<|qm 2<|qm 2<|q1 (.build z_5 [(0,1,.l 0),(1,1,.c (.int .i64 1)),(2,1,.l 1),(3,1,.c (.int .i64 1)),(4,1,.l 2),(5,1,.l 3)])<|qG 8 z_5<|qs 8 7 5 4<|qe) <| i1 32 (qm 1<|q1 (.iad 1 (.l 0) (ci 0))<|qj<|qm 0<|qQ .eql 2<|qe) 36 (r1 37 (qm 1<|qf 8 6<|qs 8 1 1 0<|qe)) <| rs 39 (qb 8 7<|qt 6 7 0<|qz 7 0<|qe) .ret
def F44 : F := mF 3 [.cell 6 (some 7),.t 7] none c44
attribute [go_sem] c44 F44
def c45 : C := rs 0 (qB 2 0<|qB 3 1<|qF 4<|qe) <| rs 5 (qr 2 0<|qr 3 0<|qq .eql 1<|ya<|qr 2 1<|qr 3 1<|qq .eql 7<|za 5<|ya<|qr 2 2<|qr 3 2<|qC 70 (ls [14,16])<|za 12<|ya<|qr 2 3<|qr 3 3<|qq .eql 21<|za 19<|ya<|qr 2 4<|qr 3 4<|qq .eql 28<|za 26<|ya<|qr 2 5<|qr 3 5<|qq .eql 35<|za 33<|ya<|qr 2 6<|qr 3 6<|qC 70 (ls [42,44])<|za 40<|qv 4<|qe) .ret
def F45 : F := mF 2 [.t 4] none c45
attribute [go_sem] c45 F45
def c47 : C := rs 0 (qB 2 0<|qG 4 z_5<|qS 5 7<|qz 6 0<|qe) <| sq (bk 0 (rs 8 (qb 2 7<|qc 39<|qn<|qv 7<|qe) <| cd 7 (rs 11 (q1 (.build z_5 [])<|qt 4 7 0<|qS 5 7<|qz 6 1<|qe) .ret) <| rs 13 (qb 2 7<|qc 68<|qn<|qv 12<|qe) <| cd 12 (rs 16 (q1 (.build z_5 [])<|qt 4 7 0<|qS 5 7<|qz 6 10<|qe) .ret) <| rs 18 (qb 2 7<|qc 41<|qv 17<|qe) <| cd 17 (rs 20 (q1 (.build z_5 [])<|qt 4 7 0<|qS 5 7<|qz 6 11<|qe) .ret) <| rs 22 (qr 2 3<|qk .eql 1099511627776<|qv 21<|qe) <| cd 21 (rs 25 (q1 (.build z_5 [])<|qt 4 7 0<|qS 5 7<|qz 6 6<|qe) .ret) .skip)) <| rs 26 (qr 2 3<|qk .add 1<|qf 2 3<|qs 2 1 3 2<|qe) <| rs 30 (qm 1<|qr 2 0<|q1 (.mks 1 1 [.int .i64 0] [(0,.l 2)])<|qf 2 5<|qs 2 1 4 0<|qf 2 6<|qs 2 1 6 3<|qe) <| rt 36 (qb 2 7<|qc 71<|qb 2 7<|qc 72<|qt 4 7 1<|qw 5<|qz 6 0<|qe) .ret
def F47 : F := mF 2 [.cell 4 (some 7),.t 5,.t 6] none c47
attribute [go_sem] c47 F47
def c51 : C := rs 0 (qB 1 0<|qS 2 7<|qe) <| i1 3 (qb 1 7<|qc 41<|qN<|qe) 5 (rs 0 (qS 2 7<|qe) .ret) <| rs 6 (qb 1 7<|qc 72<|qv 2<|qe) .ret
def F51 : F := mF 1 [.t 2] none c51
attribute [go_sem] c51 F51
def c54 : C := rs 0 (qB 3 0<|qG 6 z_5<|qS 7 7<|qz 8 0<|qe) <| i1 9 (qb 3 7<|qc 39<|qn<|yo<|qm 2<|qr 3 0<|qr 3 0<|qC 73 (ls [4,6,8])<|qn<|zo 3<|yo<|qm 1<|qC 63 [.l 13,ci 1]<|qn<|zO 12<|qe) 25 (rs 26 (q1 (.build z_5 [])<|qt 6 7 0<|qS 7 7<|qz 8 1<|qe) .ret) <| sq (bk 0 (rs 28 (qm 1<|qr 3 1<|qq .eql 0<|ya<|qb 3 7<|qc 68<|za 4<|qv 27<|qe) <| cd 27 (rt 36 (qb 3 7<|qb 3 7<|qc 72<|qt 6 7 0<|qw 7<|qz 8 0<|qe) .ret) <| rs 40 (qm 1<|qr 3 1<|qk .add 1<|qq .neq 0<|yo<|qr 3 2<|qh false<|qk .eql 0<|zo 5<|qv 39<|qe) <| cd 39 (rs 51 (q1 (.build z_5 [])<|qt 6 7 0<|qS 7 7<|qz 8 10<|qe) .ret) <| rs 53 (qr 3 3<|qk .eql 1099511627776<|qv 52<|qe) <| cd 52 (rs 56 (q1 (.build z_5 [])<|qt 6 7 0<|qS 7 7<|qz 8 6<|qe) .ret) .skip)) <| rt 57 (qm 1<|qm 2<|qc 69<|qr 3 5<|qr 3 0<|q1 (.mks 1 1 [.int .i64 0] [(0,.l 6)])<|qf 3 1<|qs 3 1 8 0<|qf 3 2<|qs 3 1 10 2<|qf 3 4<|qs 3 1 12 4<|qf 3 6<|qs 3 1 14 7<|qe) <| rs 69 (qr 3 3<|qk .add 1<|qf 3 3<|qs 3 1 3 2<|qe) <| rt 73 (qb 3 7<|qb 3 7<|qc 72<|qt 6 7 0<|qw 7<|qz 8 0<|qe) .ret
def F54 : F := mF 3 [.cell 6 (some 7),.t 7,.t 8] none c54
attribute [go_sem] c54 F54
def c57 : C := rs 0 (qB 2 0<|qB 3 1<|qG 4 z_5<|qS 5 7<|qe) <| i1 6 (qb 2 7<|q1 (.call (.k 39) .borrow none [.l 0])<|qn<|yo<|qr 3 2<|qr 2 0<|qq .neq 5<|zO 3<|qe) 15 (rs 16 (qb 2 7<|qt 4 7 0<|qS 5 7<|qe) .ret) <| sq (rs 17 (qf 3 0<|q3 (.load (.v 3) none (.l 0))<|qe) <| bk 0 (rs 20 (q1 (.bin .eql (.g 18) (ci 1))<|qv 19<|qe) <| cd 19 (rs 21 (qb 2 7<|qb 3 7<|q1 (.call (.k 74) .freeze none [.l 0,.l 1])<|qx 0<|qy 1<|qt 4 7 3<|qw 5<|qe) .ret) <| rs 27 (q1 (.bin .eql (.g 18) (ci 2))<|qv 26<|qe) <| cd 26 (rs 28 (qb 2 7<|q1 (.call (.k 68) .borrow none [.l 0])<|ya<|qr 3 3<|qr 2 1<|qq .eql 4<|za 2<|ya<|qr 3 4<|qr 2 3<|qq .eql 11<|za 9<|ya<|qr 2 2<|qr 3 1<|q1 (.call (.k 65) .borrow none [.l 18,.l 20])<|za 16<|ya<|qr 2 6<|qr 3 1<|q1 (.call (.k 65) .borrow none [.l 25,.l 27])<|qn<|zA 23<|qe) <| cd 58 (rt 59 (qr 2 6<|q1 (.call (.k 69) .freeze (some 0) [.l 1])<|qr 3 1<|q1 (.mks 1 1 [.int .i64 0] [(0,.l 4)])<|q1 (.app 61 1 (.l 2) (.l 5))<|qf 2 6<|qs 2 1 7 6<|qe) <| r1 67 (qb 2 7<|q1 (.call (.k 71) .freeze none [.l 0])<|qt 2 7 1<|qe)) .skip) <| rs 70 (q1 (.bin .eql (.g 18) (ci 3))<|qv 69<|qe) <| cd 69 (rs 71 (qr 3 3<|qr 2 1<|qQ .gtr 1<|qe) <| cd 75 (r1 76 (qr 2 5<|qf 2 2<|q5 (.store (.v 2) 1 (.l 2) (.c (.slice 1 [])))<|qf 2 6<|q5 (.store (.v 2) 1 (.l 4) (.c (.slice 1 [])))<|qf 2 4<|qs 2 1 6 1<|qe)) .skip) .skip)) <| rs 81 (qb 2 7<|qt 4 7 0<|qS 5 7<|qe) .ret
def F57 : F := mF 2 [.cell 4 (some 7),.t 5] none c57
attribute [go_sem] c57 F57
def l61_1 : C := .loop [] [] [] [] (lq 26 (qm 4<|qm 3<|qQ .lss 0<|qe) 28 2 <| sq (bk 3 (rt 31 (qm 0<|qm 4<|qi 1<|qj<|qm 0<|qm 3<|qi 1<|qj<|qQ .eql 3<|qe) <| cd 39 (rs 0 (qF 2<|qe) .ret) .skip)) <| r1 29 (qm 4<|qk .add 1<|qv 4<|qe))
def l61_0 : C := .loop [] [] [] [] (lq 8 (qm 3<|qm 0<|qh false<|qQ .lss 0<|qe) 11 0 <| sq (bk 1 (i1 14 (qm 0<|qm 3<|qi 1<|qj<|qk .lss 1<|yo<|qm 0<|qm 3<|qi 1<|qj<|qk .gtr 255<|zO 5<|qe) 25 (rs 0 (qF 2<|qe) .ret) <| rs 0 (qz 4 0<|qe) <| bk 2 l61_1)) <| r1 12 (qm 3<|qk .add 1<|qv 3<|qe))
def c61 : C := rs 0 (qF 2<|qe) <| i1 5 (qm 0<|qh false<|qK .gtr 8<|qe) 7 (rs 0 (qF 2<|qe) .ret) <| sq (rs 0 (qz 3 0<|qe) <| bk 0 l61_0) <| rs 0 (qT 2<|qe) .ret
def F61 : F := mF 1 [.t 2] none c61
attribute [go_sem] c61 F61
def l62_0 : C := .loop [] [] [] [] (lq 6 (qm 5<|qm 0<|qh false<|qQ .lss 0<|qe) 9 0 <| sq (bk 1 (rs 12 (qm 0<|qm 5<|qi 1<|qj<|qm 1<|qQ .eql 3<|qe) <| cd 17 (rs 0 (qT 4<|qe) .ret) .skip)) <| r1 10 (qm 5<|qk .add 1<|qv 5<|qe))
def c62 : C := rs 0 (qF 4<|qe) <| sq (rs 0 (qz 5 0<|qe) <| bk 0 l62_0) <| rs 0 (qF 4<|qe) .ret
def F62 : F := mF 2 [.t 4] none c62
attribute [go_sem] c62 F62
def c63 : C := rs 0 (qF 4<|qe) <| rs 5 (qm 0<|qm 1<|qq .geq 0<|ya<|qm 0<|qk .leq 1099511627776<|za 3<|qv 4<|qe) .ret
def F63 : F := mF 2 [.t 4] none c63
attribute [go_sem] c63 F63
def l64_0 : C := .loop [] [] [] [] (rs 8 (q3 (.bin .lss (.g 7) (.g 6))<|qe) <| sq (cd 8 .skip <| .exit 0) <| sq (bk 1 (rs 9 (qm 7<|q1 (.iad 1 (.g 5) (.g 7))<|qj<|qV 3 0<|qw 4<|qe) <| rs 12 (qm 4<|qk .lss 1<|yo<|qm 4<|qk .gtr 255<|zo 2<|yo<|qm 0<|qm 3<|q1 (.sl false 1 (.l 7) none (some (.l 8)))<|qm 4<|qd 65<|zO 6<|qe) <| cd 24 (rs 0 (qF 2<|qe) .ret) .skip)) <| r1 25 (q1 (.bin .add (.g 7) (ci 1))<|qv 7<|qe))
def c64 : C := rs 0 (qF 2<|qe) <| sq (rs 5 (q3 (.mov (.g 0))<|qH false<|q3 (.mov (ci 0))<|qe) <| bk 0 l64_0) <| rs 26 (qm 0<|qh false<|qk .leq 8<|qv 2<|qe) .ret
def F64 : F := mF 1 [.t 2] none c64
attribute [go_sem] c64 F64
def c65 : C := rs 0 (qF 4<|qe) <| rs 5 (qm 0<|qm 1<|qd 75<|qk .geq 0<|qv 4<|qe) .ret
def F65 : F := mF 2 [.t 4] none c65
attribute [go_sem] c65 F65
def c66 : C := rs 0 (qF 3<|qe) <| rs 4 (qf 1 2<|qj<|qm 0<|qd 65<|qn<|qv 3<|qe) .ret
def F66 : F := mF 2 [.t 3] none c66
attribute [go_sem] c66 F66
def c67 : C := rs 0 (qF 4<|qe) <| rs 5 (qm 0<|qm 1<|qd 76<|qk .geq 0<|qv 4<|qe) .ret
def F67 : F := mF 2 [.t 4] none c67
attribute [go_sem] c67 F67
def c68 : C := rs 0 (qB 1 0<|qF 2<|qe) <| rt 3 (qr 1 2<|qh false<|qk .gtr 0<|ya<|qr 1 2<|q1 (.iad 1 (.l 6) (ci 0))<|qj<|qr 1 0<|qq .eql 8<|za 4<|qv 2<|qe) .ret
def F68 : F := mF 1 [.t 2] none c68
attribute [go_sem] c68 F68
def l70_0 : C := .loop [] [] [] [] (lq 11 (qm 5<|qm 0<|qh false<|qQ .lss 0<|qe) 14 0 <| sq (bk 1 (rt 17 (qm 0<|qm 5<|qi 1<|qj<|qm 1<|qm 5<|qi 1<|qj<|qQ .neq 3<|qe) <| cd 25 (rs 0 (qF 4<|qe) .ret) .skip)) <| r1 15 (qm 5<|qk .add 1<|qv 5<|qe))
def c70 : C := rs 0 (qF 4<|qe) <| i1 6 (qm 0<|qh false<|qm 1<|qh false<|qQ .neq 1<|qe) 10 (rs 0 (qF 4<|qe) .ret) <| sq (rs 0 (qz 5 0<|qe) <| bk 0 l70_0) <| rs 0 (qT 4<|qe) .ret
def F70 : F := mF 2 [.t 4] none c70
attribute [go_sem] c70 F70
def c71 : C := rs 0 (qB 1 0<|qG 2 z_5<|qe) <| i1 3 (qr 1 6<|qh false<|qr 1 2<|qh false<|qQ .eql 2<|qe) 9 (r1 10 (qr 1 5<|qf 1 4<|qs 1 1 2 1<|qe)) <| rs 13 (qb 1 7<|qt 2 7 0<|qe) .ret
def F71 : F := mF 1 [.cell 2 (some 7)] none c71
attribute [go_sem] c71 F71
def l72_0 : C := .loop [] [] [] [] (rs 10 (q3 (.bin .lss (.g 9) (.g 8))<|qe) <| sq (cd 10 .skip <| .exit 0) <| sq (bk 1 (rs 11 (q1 (.iad 1 (.g 7) (.g 9))<|qj<|qv 5<|qe) <| rs 13 (qr 1 6<|qm 5<|qd 65<|qN<|qe) <| cd 17 (r2 18 (qm 3<|qr 1 0<|qm 5<|qr 1 1<|qr 1 3<|qr 1 2<|qc 69<|qr 1 5<|q1 (.build z_6 [(0,1,.c (.int .i64 1)),(1,1,.l 2),(2,1,.l 3),(3,1,.l 5),(4,1,.l 7),(5,1,.l 10),(6,1,.l 12)])<|q1 (.mks 7 1 z_6 [(0,.l 13)])<|q1 (.app 3 7 (.l 0) (.l 14))<|qv 3<|qe)) .skip)) <| r1 34 (q1 (.bin .add (.g 9) (ci 1))<|qv 9<|qe))
def c72 : C := rs 0 (qB 1 0<|qS 2 7<|qe) <| rs 3 (q3 (.mko 7)<|qe) <| sq (rs 6 (qf 1 2<|q3 (.load (.v 1) none (.l 0))<|qH false<|q3 (.mov (ci 0))<|qe) <| bk 0 l72_0) <| rs 35 (qm 3<|qv 2<|qe) .ret
def F72 : F := mF 1 [.t 2] none c72
attribute [go_sem] c72 F72
def c73 : C := rs 0 (qF 6<|qe) <| rs 7 (qm 0<|qh false<|qk .gtr 0<|ya<|qm 0<|qc 64<|za 3<|ya<|qm 0<|qm 1<|qd 65<|za 7<|ya<|qm 0<|q1 (.iad 1 (.l 13) (ci 0))<|qj<|qm 2<|qq .eql 15<|za 12<|qv 6<|qe) .ret
def F73 : F := mF 3 [.t 6] none c73
attribute [go_sem] c73 F73
def c74 : C := rs 0 (qB 2 0<|qB 3 1<|qG 4 z_5<|qS 5 7<|qe) <| i1 7 (qr 3 1<|qr 2 0<|qq .eql 1<|yo<|qr 3 5<|qr 2 0<|qr 3 1<|qC 73 (ls [7,9,11])<|qn<|zo 5<|yo<|qr 3 3<|qC 63 [.l 17,ci 1]<|qn<|zo 15<|yo<|qr 3 4<|qC 63 [.l 23,ci 1]<|qn<|zO 21<|qe) 33 (rs 34 (qb 2 7<|qt 4 7 0<|qS 5 7<|qe) .ret) <| i1 35 (qr 3 3<|qr 2 1<|qQ .lss 1<|qe) 39 (rt 40 (qb 2 7<|qr 2 0<|qr 3 1<|qr 2 1<|q1 (.build z_6 [(0,1,.c (.int .i64 3)),(1,1,.l 2),(2,1,.l 4),(3,1,.l 6)])<|q1 (.mks 7 1 z_6 [(0,.l 7)])<|qt 4 7 0<|qw 5<|qe) .ret) <| rs 49 (qr 3 3<|qr 2 1<|qq .eql 1<|qv 6<|qe) <| sq (bk 0 (rs 55 (qm 6<|ya<|qb 2 7<|qc 68<|yo<|qr 3 4<|qr 2 3<|qq .lss 6<|y1 1<|qo 4<|za 1<|qv 54<|qe) <| cd 54 (rs 67 (qb 2 7<|qt 4 7 0<|qS 5 7<|qe) .ret) <| rs 69 (qm 6<|qn<|yo<|qr 3 4<|qr 2 3<|qq .gtr 4<|zo 2<|qv 68<|qe) <| cd 68 (rt 78 (qr 3 3<|qr 3 5<|qc 69<|qr 3 4<|qf 2 1<|qs 2 1 7 1<|qf 2 2<|qs 2 1 9 4<|qf 2 3<|qs 2 1 11 6<|qe) <| r2 88 (qr 3 6<|qr 3 6<|qf 2 4<|qs 2 1 4 1<|qf 2 5<|qs 2 1 6 3<|qf 2 6<|q5 (.store (.v 2) 1 (.l 8) (.c (.slice 1 [])))<|qe)) .skip)) <| rt 95 (qb 2 7<|qr 2 0<|qr 3 1<|qr 2 1<|qr 2 3<|q1 (.build z_6 [(0,1,.c (.int .i64 2)),(1,1,.l 2),(2,1,.l 4),(3,1,.l 6),(4,1,.l 8)])<|q1 (.mks 7 1 z_6 [(0,.l 9)])<|qt 4 7 0<|qw 5<|qe) .ret
def F74 : F := mF 2 [.cell 4 (some 7),.t 5] none c74
attribute [go_sem] c74 F74
def l75_0 : C := .loop [] [] [] [] (rs 9 (q3 (.bin .lss (.g 8) (.g 7))<|qe) <| sq (cd 9 .skip <| .exit 0) <| sq (bk 1 (rs 10 (qm 8<|qv 5<|qe) <| rs 11 (qm 1<|qm 0<|qm 5<|qi 1<|qj<|qQ .eql 0<|qe) <| cd 16 (rs 17 (qm 5<|qv 4<|qe) .ret) .skip)) <| r1 18 (q1 (.bin .add (.g 8) (ci 1))<|qv 8<|qe))
def c75 : C := rs 0 (qz 4 0<|qe) <| sq (rs 6 (qm 0<|qH false<|q3 (.mov (ci 0))<|qe) <| bk 0 l75_0) <| rs 0 (qz 4 (-1)<|qe) .ret
def F75 : F := mF 2 [.t 4] none c75
attribute [go_sem] c75 F75
def l76_0 : C := .loop [] [] [] [] (rs 9 (q3 (.bin .lss (.g 8) (.g 7))<|qe) <| sq (cd 9 .skip <| .exit 0) <| sq (bk 1 (rs 10 (qm 8<|qv 5<|qe) <| rs 11 (qm 1<|qm 0<|qm 5<|qi 1<|qj<|q3 (.call (.v (.l 0)) .no none [.l 4])<|qe) <| cd 16 (rs 17 (qm 5<|qv 4<|qe) .ret) .skip)) <| r1 18 (q1 (.bin .add (.g 8) (ci 1))<|qv 8<|qe))
def c76 : C := rs 0 (qz 4 0<|qe) <| sq (rs 6 (qm 0<|qH false<|q3 (.mov (ci 0))<|qe) <| bk 0 l76_0) <| rs 0 (qz 4 (-1)<|qe) .ret
def F76 : F := mF 2 [.t 4] none c76
attribute [go_sem] c76 F76
def c200 : C := rs 0 (qB 5 2<|qS 6 2<|qz 7 0<|qe) <| i1 14 (qm 0<|qc 203<|qn<|yo<|qm 1<|qc 170<|qn<|zO 3<|qe) 21 (rs 0 (qS 6 2<|qz 7 1<|qe) .ret) <| rs 23 (qm 0<|qm 1<|qd 220<|q2 22 (.mov (.l 2))<|qx 0<|qy 1<|qw 8<|qw 9<|qe) <| rs 0 (qS 10 5<|qe) <| i1 28 (q3 (.mov (.g 9))<|qe) 28 (r1 29 (qm 0<|qm 8<|qi 2<|qg 1<|qj<|qv 10<|qe)) <| rs 35 (qm 10<|qb 5 5<|qd 3<|q2 34 (.mov (.l 2))<|qx 0<|qy 1<|qw 11<|qw 12<|qe) <| sq (bk 0 (rs 41 (qm 12<|qk .neq 0<|qv 40<|qe) <| cd 40 (rs 43 (qm 12<|qS 6 2<|qw 7<|qe) .ret) <| rs 45 (qm 9<|qn<|ya<|qm 0<|qh false<|qk .eql 64<|za 2<|qv 44<|qe) <| cd 44 (rs 0 (qS 6 2<|qz 7 6<|qe) .ret) .skip)) <| rs 52 (qm 0<|q1 (.call (.k 221) .no (some 0) [.l 0])<|qv 13<|qe) <| i1 54 (qm 9<|qN<|qe) 55 (r1 56 (qm 13<|qm 8<|qm 1<|q1 (.build z_7 [(0,1,.l 2)])<|q1 (.mks 2 1 z_7 [(0,.l 3)])<|q1 (.ins 222 53 2 (.l 0) (.l 1) (.l 4))<|qv 13<|qe)) <| rs 62 (qm 13<|qm 8<|qm 11<|q1 (.iad 2 (.l 0) (.l 1))<|qg 1<|q5 (.store (.e 53) 1 (.l 4) (.l 2))<|qe) <| rs 67 (qm 13<|qv 6<|qz 7 0<|qe) .ret
def F200 : F := mF 3 [.t 6,.t 7] none c200
attribute [go_sem] c200 F200
def l203_0 : C := .loop [] [] [4] [] (rs 8 (q3 (.bin .lss (.g 7) (.g 6))<|qe) <| sq (cd 8 .skip <| .exit 0) <| sq (bk 1 (rs 9 (qm 7<|q1 (.iad 2 (.g 5) (.g 7))<|qJ 2<|qG 4 z_7<|qV 3 0<|qs 4 2 3 2<|qe) <| rt 12 (qr 4 0<|qc 170<|qn<|yo<|qr 4 1<|qc 7<|qn<|zo 4<|yo<|qr 4 1<|qh false<|qk .eql 0<|zo 10<|yo<|qm 3<|qk .gtr 0<|ya<|qm 0<|qm 3<|qk .sub 1<|q1 (.iad 2 (.l 20) (.l 22))<|qg 0<|qj<|qr 4 0<|qC 192 (ls [25,27])<|qk .geq 0<|y0 16<|qa 19<|zO 16<|qe) <| cd 43 (rs 0 (qF 2<|qe) .ret) .skip)) <| r1 44 (q1 (.bin .add (.g 7) (ci 1))<|qv 7<|qe))
def c203 : C := rs 0 (qF 2<|qe) <| sq (rs 5 (q3 (.mov (.g 0))<|qH false<|q3 (.mov (ci 0))<|qe) <| bk 0 l203_0) <| rs 45 (qm 0<|qh false<|qk .leq 64<|qv 2<|qe) .ret
def F203 : F := mF 1 [.t 2] none c203
attribute [go_sem] c203 F203
def l206_0 : C := .loop [] [] [17] [] (rs 34 (q3 (.bin .lss (.g 33) (.g 32))<|qe) <| sq (cd 34 .skip <| .exit 0) <| sq (bk 1 (rs 35 (q1 (.iad 2 (.g 31) (.g 33))<|qJ 2<|qG 17 z_7<|qs 17 2 2 1<|qe) <| i1 37 (qm 2<|q1 (.bin .neq (.l 0) (.c (.str [])))<|ya<|qr 17 0<|qm 2<|qd 192<|qk .geq 0<|zA 2<|qe) 45 (.exit 0) <| rs 47 (qr 17 1<|qb 8 3<|qd 12<|q2 46 (.mov (.l 3))<|qx 0<|qy 1<|qw 18<|qw 19<|qe) <| i1 53 (qm 19<|qN<|qe) 54 (.exit 1) <| i1 55 (qm 13<|qh false<|qm 4<|qQ .geq 1<|qe) 58 (rt 59 (qm 13<|qr 17 0<|qV 10 0<|qw 11<|qT 12<|qe) .ret) <| r1 62 (qm 13<|qr 17 0<|qm 18<|q1 (.build z_1 [(0,1,.l 2),(1,1,.l 3)])<|q1 (.mks 2 1 z_1 [(0,.l 4)])<|q1 (.app 13 2 (.l 0) (.l 5))<|qv 13<|qe))) <| r1 69 (q1 (.bin .add (.g 33) (ci 1))<|qv 33<|qe))
def c206 : C := rs 0 (qB 8 3<|qS 10 2<|qE 11<|qF 12<|qe) <| i1 20 (qm 0<|qc 203<|qN<|qe) 22 (rs 0 (qS 10 2<|qE 11<|qF 12<|qe) .ret) <| rs 13 (q3 (.mko 2)<|qe) <| rs 24 (qm 0<|qm 1<|qd 220<|q2 23 (.mov (.l 2))<|qx 0<|qy 1<|qw 14<|qD 15<|q1 (.mov (.l 5))<|qe) <| sq (rs 29 (qm 0<|qm 14<|q3 (.sl false 2 (.l 0) (some (.l 1)) none)<|qH false<|q3 (.mov (ci 0))<|qe) <| bk 0 l206_0) <| rs 70 (qm 13<|qv 10<|qE 11<|qF 12<|qe) .ret
def F206 : F := mF 5 [.t 10,.t 11,.t 12] none c206
attribute [go_sem] c206 F206
def c211 : C := rs 0 (qS 4 2<|qS 5 2<|qe) <| i1 8 (qm 0<|qc 203<|qN<|qe) 10 (rs 0 (qS 4 2<|qS 5 2<|qe) .ret) <| rs 12 (qm 0<|qm 1<|qd 220<|q2 11 (.mov (.l 2))<|qx 0<|qy 1<|qw 6<|qD 7<|q1 (.mov (.l 5))<|qe) <| rt 17 (qm 0<|qm 6<|q1 (.sl false 2 (.l 0) none (some (.l 1)))<|qc 221<|qm 0<|qm 6<|q1 (.sl false 2 (.l 4) (some (.l 5)) none)<|qc 221<|qV 4 3<|qw 5<|qe) .ret
def F211 : F := mF 2 [.t 4,.t 5] none c211
attribute [go_sem] c211 F211
def c213 : C := rs 0 (qS 4 2<|qz 5 0<|qe) <| sq (bk 0 (rs 7 (qm 0<|qc 203<|qn<|yo<|qm 1<|qc 203<|qn<|zo 3<|qv 6<|qe) <| cd 6 (rs 0 (qS 4 2<|qz 5 1<|qe) .ret) <| rt 16 (qm 0<|qh false<|qk .gtr 0<|ya<|qm 1<|qh false<|qk .gtr 0<|za 3<|ya<|qm 0<|qm 0<|qh false<|qk .sub 1<|q1 (.iad 2 (.l 9) (.l 12))<|qg 0<|qj<|qm 1<|q1 (.iad 2 (.l 16) (ci 0))<|qg 0<|qj<|qC 192 (ls [15,19])<|qk .geq 0<|za 8<|qv 15<|qe) <| cd 15 (rs 0 (qS 4 2<|qz 5 9<|qe) .ret) <| rs 40 (qm 0<|qh false<|qm 1<|qh false<|qq .add 1<|qk .gtr 64<|qv 39<|qe) <| cd 39 (rs 0 (qS 4 2<|qz 5 6<|qe) .ret) .skip)) <| rs 46 (qm 0<|q1 (.call (.k 221) .no (some 0) [.l 0])<|qm 1<|qc 221<|q1 (.app 47 2 (.l 1) (.l 3))<|qv 4<|qz 5 0<|qe) .ret
def F213 : F := mF 2 [.t 4,.t 5] none c213
attribute [go_sem] c213 F213
def l217_0 : C := .loop [] [] [7] [] (rs 15 (q3 (.bin .lss (.g 14) (.g 13))<|qe) <| sq (cd 15 .skip <| .exit 0) <| sq (bk 1 (rs 16 (q1 (.iad 2 (.g 12) (.g 14))<|qJ 2<|qG 7 z_7<|qs 7 2 2 1<|qe) <| rs 18 (qr 7 1<|qb 3 3<|qd 17<|qv 8<|qe) <| rs 22 (qm 8<|qh false<|qK .gtr 0<|qe) <| cd 24 (r1 25 (qm 5<|qr 7 0<|qm 8<|q1 (.build z_7 [(0,1,.l 2),(1,1,.l 3)])<|q1 (.mks 2 1 z_7 [(0,.l 4)])<|q1 (.app 5 2 (.l 0) (.l 5))<|qv 5<|qe)) .skip)) <| r1 32 (q1 (.bin .add (.g 14) (ci 1))<|qv 14<|qe))
def c217 : C := rs 0 (qB 3 1<|qS 4 2<|qe) <| i1 9 (qm 0<|qc 203<|qN<|qe) 11 (rs 0 (qS 4 2<|qe) .ret) <| rs 5 (q3 (.mko 2)<|qe) <| sq (rs 12 (q3 (.mov (.g 0))<|qH false<|q3 (.mov (ci 0))<|qe) <| bk 0 l217_0) <| rs 33 (qm 5<|qv 4<|qe) .ret
def F217 : F := mF 2 [.t 4] none c217
attribute [go_sem] c217 F217
def c220 : C := rs 0 (qz 4 0<|qF 5<|qe) <| rs 6 (qm 0<|qm 1<|qC 225 [.l 0,.l 1,.f 226]<|qx 0<|qy 1<|qw 4<|qw 5<|qe) .ret
def F220 : F := mF 2 [.t 4,.t 5] none c220
attribute [go_sem] c220 F220
def l221_0 : C := .loop [] [] [] [] (rs 10 (q3 (.bin .lss (.g 9) (.g 8))<|qe) <| sq (cd 10 .skip <| .exit 0) <| sq (bk 1 (rs 11 (qm 9<|qv 4<|qe) <| r1 12 (qm 3<|qm 4<|qm 3<|qm 4<|qi 2<|qg 1<|q1 (.load (.e 6) none (.l 5))<|qc 23<|q1 (.iad 2 (.l 0) (.l 1))<|qg 1<|q5 (.store (.e 6) 1 (.l 9) (.l 7))<|qe))) <| r1 22 (q1 (.bin .add (.g 9) (ci 1))<|qv 9<|qe))
def c221 : C := rs 0 (qS 2 2<|qe) <| rs 5 (qm 0<|q1 (.call (.k 227) .no (some 0) [.l 0])<|qv 3<|qe) <| sq (rs 7 (qm 3<|qH false<|q3 (.mov (ci 0))<|qe) <| bk 0 l221_0) <| rs 23 (qm 3<|qv 2<|qe) .ret
def F221 : F := mF 1 [.t 2] (some 0) c221
attribute [go_sem] c221 F221
def l225_0 : C := .loop [] [] [] [] (lq 15 (qm 9<|qm 10<|qQ .lss 0<|qe) 17 0 <| bk 1 (rs 18 (qm 9<|qm 10<|qq .add 0<|q1 (.conv (.int .u64) (.l 2))<|q1 (.sh .shr (.l 3) (.c (.int .u64 1)))<|q1 (.conv (.int .i64) (.l 4))<|qv 11<|qe) <| rs 24 (qm 2<|qm 0<|qm 11<|qi 2<|qJ 2<|qm 1<|q1 (.call (.v (.l 0)) .no none [.l 4,.l 5])<|qK .lss 0<|qe) <| cd 31 (r1 32 (qm 11<|qk .add 1<|qv 9<|qe)) <| r1 34 (qm 11<|qv 10<|qe)))
def c225 : C := rs 0 (qz 6 0<|qF 7<|qe) <| rs 12 (qm 0<|qh false<|qv 8<|qe) <| rs 14 (qm 8<|qz 9 0<|qw 10<|qe) <| sq (bk 0 l225_0) <| rs 35 (qm 9<|qm 9<|qm 8<|qq .lss 1<|ya<|qm 2<|qm 0<|qm 9<|qi 2<|qJ 2<|qm 1<|q1 (.call (.v (.l 5)) .no none [.l 9,.l 10])<|qk .eql 0<|za 4<|qV 6 0<|qw 7<|qe) .ret
def F225 : F := mF 3 [.t 6,.t 7] none c225
attribute [go_sem] c225 F225
def c226 : C := rs 0 (qB 2 0<|qz 4 0<|qe) <| rs 5 (qr 2 0<|qm 1<|qd 192<|qv 4<|qe) .ret
def F226 : F := mF 2 [.t 4] none c226
attribute [go_sem] c226 F226
def c240 : C := rs 0 (qB 6 0<|qB 9 3<|qB 10 4<|qG 12 z_8<|qG 13 z_9<|qe) <| i1 16 (qb 6 5<|qc 249<|qn<|yo<|qm 1<|qm 2<|q1 (.mks 1 2 [.int .i64 0] [(0,.l 4),(1,.l 5)])<|qC 284 [ci 1,.l 6]<|qn<|zo 3<|yo<|qm 5<|q1 (.mks 1 1 [.int .i64 0] [(0,.l 11)])<|qC 284 [ci 0,.l 12]<|qn<|zo 10<|yo<|qb 10 3<|qc 28<|qn<|zo 16<|yo<|qb 9 12<|qc 285<|qn<|zO 21<|qe) 41 (rt 42 (qb 6 5<|qC 286 [ci 1]<|qt 12 5 0<|qt 13 9 1<|qe) .ret) <| rs 44 (qb 6 5<|qm 1<|qd 287<|qG 14 z_10<|qs 14 17 3 2<|qe) <| rs 47 (qr 9 3<|q1 (.bin .eql (.l 1) (.c (.str [])))<|ya<|qf 14 2<|qg 0<|ql 14<|q1 (.bin .eql (.l 6) (.c (.str [])))<|za 3<|yo<|qR 14 2 2<|qr 9 3<|qC 171 (ls [11,13])<|zo 9<|qv 15<|qe) <| sq (bk 0 (rs 64 (qr 14 0<|qk .eql 0<|yo<|qr 14 1<|qm 2<|qq .neq 5<|zo 3<|yo<|qm 15<|qn<|zo 9<|qv 63<|qe) <| cd 63 (rt 77 (qb 6 5<|qC 286 [ci 10]<|qt 12 5 0<|qt 13 9 1<|qe) .ret) <| rs 80 (qr 14 4<|qk .neq 1<|yo<|qb 9 12<|qc 288<|ya<|qr 14 13<|qk .neq 0<|y0 3<|qa 6<|zo 3<|qv 79<|qe) <| cd 79 (rt 92 (qb 6 5<|qC 286 [ci 11]<|qt 12 5 0<|qt 13 9 1<|qe) .ret) <| rs 95 (qb 9 12<|qc 288<|qv 94<|qe) <| cd 94 (rs 97 (qb 6 5<|qb 14 17<|qb 9 12<|qb 10 3<|qC 289 (ls [0,1,2,3])<|qx 0<|qy 1<|qt 12 5 5<|qt 13 9 6<|qe) .ret) <| rs 105 (qr 9 2<|qk .eql 4<|qv 104<|qe) <| cd 104 (rt 108 (qb 6 5<|qb 6 5<|qb 14 17<|qr 9 3<|qC 290 (ls [1,2,4])<|qt 12 5 0<|qt 13 9 5<|qe) .ret) .skip)) <| rs 114 (qb 6 5<|qb 14 17<|qb 9 12<|qm 5<|qC 291 (ls [0,1,2,3])<|qx 0<|qy 1<|qt 12 5 5<|qt 13 9 6<|qe) .ret
def F240 : F := mF 6 [.cell 12 (some 5),.cell 13 (some 9)] none c240
attribute [go_sem] c240 F240
def c244 : C := rs 0 (qB 1 0<|qF 2<|qe) <| i1 3 (qr 1 0<|qr 1 1<|q1 (.mks 1 2 [.int .i64 0] [(0,.l 1),(1,.l 3)])<|qC 284 [ci 1,.l 4]<|qn<|yo<|qr 1 13<|qr 1 14<|qr 1 15<|qr 1 16<|q1 (.mks 1 4 [.int .i64 0] [(0,.l 9),(1,.l 11),(2,.l 13),(3,.l 15)])<|qC 284 [ci 0,.l 16]<|qn<|zo 7<|yo<|qr 1 4<|qk .lss 1<|zo 20<|yo<|qr 1 4<|qk .gtr 3<|zO 25<|qe) 32 (rs 0 (qF 2<|qe) .ret) <| i1 33 (qR 1 2 2<|qc 186<|qn<|yo<|qr 1 5<|qc 203<|qn<|zo 4<|yo<|qR 1 6 3<|qc 28<|qn<|zo 10<|yo<|qR 1 9 3<|qc 28<|qn<|zo 16<|yo<|qr 1 12<|qc 81<|qn<|zO 22<|qe) 60 (rs 0 (qF 2<|qe) .ret) <| rs 61 (qr 1 5<|q1 (.fn 298 [.g 1] [1])<|qd 299<|qn<|qv 2<|qe) .ret
def F244 : F := mF 1 [.t 2] none c244
attribute [go_sem] c244 F244
def c247 : C := rs 0 (qB 2 0<|qG 4 z_10<|qF 5<|qe) <| i1 7 (qb 2 5<|qc 249<|qn<|yo<|qm 1<|q1 (.mks 1 1 [.int .i64 0] [(0,.l 4)])<|qC 284 [ci 1,.l 5]<|qn<|zO 3<|qe) 15 (rs 16 (q1 (.build z_10 [])<|qt 4 17 0<|qF 5<|qe) .ret) <| rs 17 (qb 2 5<|qm 1<|qd 287<|qG 6 z_10<|qs 6 17 3 2<|qe) <| rt 20 (qb 6 17<|qr 6 0<|qk .neq 0<|qt 4 17 0<|qw 5<|qe) .ret
def F247 : F := mF 2 [.cell 4 (some 17),.t 5] none c247
attribute [go_sem] c247 F247
def l249_0 : C := .loop [] [] [5] [] (rs 10 (q3 (.bin .lss (.g 9) (.g 8))<|qe) <| sq (cd 10 .skip <| .exit 0) <| sq (bk 1 (rs 11 (q1 (.iad 17 (.g 7) (.g 9))<|qJ 17<|qG 5 z_10<|qs 5 17 2 1<|qe) <| i1 13 (qr 5 0<|qm 3<|qq .leq 1<|yo<|qb 5 17<|qc 244<|qn<|zo 4<|yo<|qb 5 17<|qR 1 1 3<|qC 301 (ls [10,12])<|qn<|zO 9<|qe) 28 (rs 0 (qF 2<|qe) .ret) <| r1 29 (qr 5 0<|qv 3<|qe))) <| r1 31 (q1 (.bin .add (.g 9) (ci 1))<|qv 9<|qe))
def c249 : C := rs 0 (qB 1 0<|qF 2<|qe) <| rs 0 (qz 3 0<|qe) <| sq (rs 6 (qf 1 0<|q3 (.load (.v 1) none (.l 0))<|qH false<|q3 (.mov (ci 0))<|qe) <| bk 0 l249_0) <| rs 32 (qr 1 0<|qh false<|qk .leq 8<|ya<|qR 1 1 3<|qc 28<|za 4<|ya<|qr 1 4<|q1 (.mks 1 1 [.int .i64 0] [(0,.l 11)])<|qC 284 [ci 0,.l 12]<|za 9<|qv 2<|qe) .ret
def F249 : F := mF 1 [.t 2] none c249
attribute [go_sem] c249 F249
def c253 : C := rs 0 (qB 3 0<|qB 4 1<|qG 6 z_8<|qF 7<|qe) <| i1 9 (qb 3 5<|qc 249<|qn<|yo<|qm 2<|q1 (.mks 1 1 [.int .i64 0] [(0,.l 4)])<|qC 284 [ci 1,.l 5]<|qn<|zO 3<|qe) 17 (rs 18 (qb 3 5<|qt 6 5 0<|qF 7<|qe) .ret) <| rs 19 (qb 3 5<|qr 4 0<|qC 287 (ls [0,2])<|qG 8 z_10<|qs 8 17 4 3<|qe) <| i1 23 (qr 8 0<|qK .neq 0<|qe) 25 (rt 26 (qb 3 5<|qb 8 17<|qm 2<|qd 302<|qt 6 5 0<|qw 7<|qe) .ret) <| i1 30 (qm 2<|qr 3 4<|qq .leq 0<|yo<|qr 3 0<|qh false<|qk .eql 8<|zo 4<|yo<|qb 4 17<|qc 244<|qn<|zo 10<|yo<|qb 4 17<|qm 2<|qd 303<|qn<|zo 15<|yo<|qb 4 17<|qR 4 9 3<|qC 301 (ls [22,24])<|qn<|zO 21<|qe) 57 (rs 58 (qb 3 5<|qt 6 5 0<|qF 7<|qe) .ret) <| rs 59 (qf 4 4<|qu 4 0 3<|qe) <| rs 60 (qb 3 5<|qb 4 17<|qd 304<|qt 3 5 2<|qe) <| rs 63 (qR 3 1 3<|qR 4 9 3<|qC 21 (ls [1,3])<|qf 3 1<|qs 3 3 5 4<|qe) <| rs 69 (qb 3 5<|qt 6 5 0<|qT 7<|qe) .ret
def F253 : F := mF 3 [.cell 6 (some 5),.t 7] none c253
attribute [go_sem] c253 F253
def c256 : C := rs 0 (qB 4 0<|qG 8 z_8<|qF 9<|qe) <| rs 13 (qb 4 5<|qm 1<|qd 247<|q2 12 (.mov (.l 2))<|qx 0<|qy 1<|qG 10 z_10<|qs 10 17 6 4<|qV 11 5<|qe) <| i1 18 (qm 11<|qn<|yo<|qm 2<|qm 3<|q1 (.mks 1 2 [.int .i64 0] [(0,.l 3),(1,.l 4)])<|qC 284 [ci 1,.l 5]<|qn<|zo 2<|yo<|qr 10 1<|qm 2<|qq .neq 11<|zo 9<|yo<|qr 10 4<|qk .neq 1<|zo 15<|yo<|qr 10 14<|qm 3<|qq .geq 22<|zo 20<|yo<|qr 10 13<|qk .neq 0<|ya<|qr 10 13<|qm 3<|qq .neq 32<|y0 26<|qa 30<|zO 26<|qe) 54 (rs 55 (qb 4 5<|qt 8 5 0<|qF 9<|qe) .ret) <| rs 56 (qm 3<|qf 10 13<|qs 10 1 1 0<|qe) <| rs 58 (qb 4 5<|qb 10 17<|qd 304<|qt 8 5 2<|qT 9<|qe) .ret
def F256 : F := mF 4 [.cell 8 (some 5),.t 9] none c256
attribute [go_sem] c256 F256
def c258 : C := rs 0 (qB 4 0<|qB 7 3<|qG 8 z_8<|qF 9<|qe) <| rs 13 (qb 4 5<|qm 1<|qd 247<|q2 12 (.mov (.l 2))<|qx 0<|qy 1<|qG 10 z_10<|qs 10 17 6 4<|qV 11 5<|qe) <| i1 18 (qm 11<|qn<|yo<|qm 2<|q1 (.mks 1 1 [.int .i64 0] [(0,.l 3)])<|qC 284 [ci 1,.l 4]<|qn<|zo 2<|yo<|qb 7 3<|qc 28<|qn<|zO 8<|qe) 30 (rs 31 (qb 4 5<|qt 8 5 0<|qF 9<|qe) .ret) <| i1 32 (qr 10 14<|qm 2<|qQ .geq 1<|qe) 35 (rs 36 (qb 4 5<|qt 8 5 0<|qT 9<|qe) .ret) <| rs 37 (qm 2<|qf 10 14<|qs 10 1 1 0<|qe) <| i1 39 (qr 10 13<|qm 2<|qQ .eql 1<|qe) 42 (r1 43 (qf 10 13<|qu 10 0 0<|qe)) <| rs 44 (qb 4 5<|qb 10 17<|qd 304<|qt 4 5 2<|qe) <| rs 47 (qR 4 1 3<|qb 7 3<|qd 21<|qf 4 1<|qs 4 3 4 3<|qe) <| rs 52 (qb 4 5<|qt 8 5 0<|qT 9<|qe) .ret
def F258 : F := mF 4 [.cell 8 (some 5),.t 9] none c258
attribute [go_sem] c258 F258
def c261 : C := rs 0 (qB 2 0<|qB 3 1<|qG 4 z_8<|qe) <| i1 5 (qb 2 5<|qc 249<|ya<|qb 3 3<|qc 28<|zA 2<|qe) 10 (r1 11 (qR 2 1 3<|qb 3 3<|qd 21<|qf 2 1<|qs 2 3 4 3<|qe)) <| rs 16 (qb 2 5<|qt 4 5 0<|qe) .ret
def F261 : F := mF 2 [.cell 4 (some 5)] none c261
attribute [go_sem] c261 F261
def l262_0 : C := .loop [] [] [6] [] (rs 24 (q3 (.bin .lss (.g 23) (.g 22))<|qe) <| sq (cd 24 .skip <| .exit 0) <| sq (bk 1 (rs 25 (qm 23<|q1 (.iad 17 (.g 21) (.g 23))<|q1 (.load (.e 18) (some 17) (.l 1))<|qG 6 z_10<|qV 5 0<|qs 6 17 3 2<|qe) <| rt 28 (qr 2 0<|qm 5<|qr 6 5<|qb 3 3<|q1 (.call (.k 217) .freeze none [.l 4,.l 5])<|q1 (.iad 17 (.l 1) (.l 2))<|qg 5<|q5 (.store (.e 18) 1 (.l 8) (.l 6))<|qe) <| r2 37 (qr 2 0<|qm 5<|qR 6 6 3<|qb 3 3<|q1 (.call (.k 21) .freeze none [.l 4,.l 5])<|q1 (.iad 17 (.l 1) (.l 2))<|qg 6<|q5 (.store (.e 18) 3 (.l 8) (.l 6))<|qe))) <| r1 46 (q1 (.bin .add (.g 23) (ci 1))<|qv 23<|qe))
def c262 : C := rs 0 (qB 2 0<|qB 3 1<|qG 4 z_8<|qe) <| i1 7 (qb 2 5<|q1 (.call (.k 249) .borrow none [.l 0])<|qn<|yo<|qb 3 3<|q1 (.call (.k 28) .borrow none [.l 4])<|qn<|zO 3<|qe) 14 (rs 15 (qb 2 5<|qt 4 5 0<|qe) .ret) <| rs 16 (qr 2 0<|q1 (.call (.k 307) .freeze (some 0) [.l 1])<|qf 2 0<|qs 2 1 3 2<|qe) <| sq (rs 20 (qf 2 0<|q3 (.load (.v 2) none (.l 0))<|qH false<|q3 (.mov (ci 0))<|qe) <| bk 0 l262_0) <| rs 47 (qb 2 5<|qt 4 5 0<|qe) .ret
def F262 : F := mF 2 [.cell 4 (some 5)] none c262
attribute [go_sem] c262 F262
def c265 : C := rs 0 (qB 4 0<|qG 8 z_8<|qF 9<|qe) <| rs 13 (qb 4 5<|qm 1<|qd 247<|q2 12 (.mov (.l 2))<|qx 0<|qy 1<|qG 10 z_10<|qs 10 17 6 4<|qV 11 5<|qe) <| i1 18 (qm 11<|qn<|yo<|qm 2<|qm 3<|q1 (.mks 1 2 [.int .i64 0] [(0,.l 3),(1,.l 4)])<|qC 284 [ci 1,.l 5]<|qn<|zO 2<|qe) 26 (rs 27 (qb 4 5<|qt 8 5 0<|qF 9<|qe) .ret) <| i1 28 (qb 10 17<|qm 3<|q3 (.call (.k 303) .no none [.l 0,.l 1])<|qe) 30 (rs 31 (qb 4 5<|qt 8 5 0<|qT 9<|qe) .ret) <| i1 32 (qr 10 1<|qm 2<|qq .neq 1<|yo<|qr 10 4<|qk .neq 1<|zo 4<|yo<|qr 10 13<|qk .neq 0<|zo 9<|yo<|qr 10 16<|qm 3<|qq .geq 16<|zO 14<|qe) 51 (rs 52 (qb 4 5<|qt 8 5 0<|qF 9<|qe) .ret) <| rt 53 (qm 3<|qR 4 1 3<|qf 10 4<|qu 10 3 2<|qf 10 15<|qs 10 1 5 0<|qf 10 9<|qs 10 3 7 2<|qe) <| rs 59 (qb 4 5<|qb 10 17<|qd 304<|qt 8 5 2<|qT 9<|qe) .ret
def F265 : F := mF 4 [.cell 8 (some 5),.t 9] none c265
attribute [go_sem] c265 F265
def c266 : C := rs 0 (qB 4 0<|qG 8 z_8<|qF 9<|qe) <| rs 13 (qb 4 5<|qm 1<|qd 247<|q2 12 (.mov (.l 2))<|qx 0<|qy 1<|qG 10 z_10<|qs 10 17 6 4<|qV 11 5<|qe) <| i1 18 (qm 11<|qn<|yo<|qm 2<|qm 3<|q1 (.mks 1 2 [.int .i64 0] [(0,.l 3),(1,.l 4)])<|qC 284 [ci 1,.l 5]<|qn<|zO 2<|qe) 26 (rs 27 (qb 4 5<|qt 8 5 0<|qF 9<|qe) .ret) <| i1 28 (qr 10 4<|qk .eql 1<|ya<|qr 10 1<|qm 3<|qq .eql 5<|za 3<|ya<|qr 10 16<|qm 2<|qq .eql 11<|zA 9<|qe) 42 (rs 43 (qb 4 5<|qt 8 5 0<|qT 9<|qe) .ret) <| i1 44 (qb 10 17<|qm 2<|qd 302<|qn<|yo<|qm 3<|qr 10 1<|qq .leq 5<|zO 4<|qe) 53 (rs 54 (qb 4 5<|qt 8 5 0<|qF 9<|qe) .ret) <| rs 55 (qm 3<|qm 2<|qf 10 4<|qu 10 2 1<|qf 10 1<|qs 10 1 4 0<|qf 10 16<|qs 10 1 6 1<|qe) <| rs 60 (qr 4 4<|qm 2<|q1 (.mm true (.l 1) (.l 2))<|qf 4 4<|qs 4 1 4 3<|qe) <| rs 65 (qb 4 5<|qb 10 17<|qd 304<|qt 8 5 2<|qT 9<|qe) .ret
def F266 : F := mF 4 [.cell 8 (some 5),.t 9] none c266
attribute [go_sem] c266 F266
def c267 : C := rs 0 (qB 3 0<|qG 6 z_8<|qF 7<|qe) <| i1 9 (qb 3 5<|qc 249<|qn<|yo<|qm 1<|qm 2<|q1 (.mks 1 2 [.int .i64 0] [(0,.l 4),(1,.l 5)])<|qC 284 [ci 1,.l 6]<|qn<|zO 3<|qe) 18 (rs 19 (qb 3 5<|qt 6 5 0<|qF 7<|qe) .ret) <| rs 20 (qb 3 5<|qm 1<|qd 287<|qG 8 z_10<|qs 8 17 3 2<|qe) <| i1 23 (qr 8 0<|qK .eql 0<|qe) 25 (rs 26 (qb 3 5<|qt 6 5 0<|qT 7<|qe) .ret) <| i1 27 (qb 8 17<|qm 2<|qd 303<|qN<|qe) 30 (rs 31 (qb 3 5<|qt 6 5 0<|qF 7<|qe) .ret) <| rs 32 (qb 3 5<|qm 1<|qd 308<|qt 6 5 2<|qT 7<|qe) .ret
def F267 : F := mF 3 [.cell 6 (some 5),.t 7] none c267
attribute [go_sem] c267 F267
def c270 : C := rs 0 (qB 3 0<|qG 6 z_8<|qF 7<|qe) <| rs 11 (qb 3 5<|qm 1<|qd 247<|q2 10 (.mov (.l 2))<|qx 0<|qy 1<|qG 8 z_10<|qs 8 17 6 4<|qV 9 5<|qe) <| i1 16 (qm 9<|qn<|yo<|qm 2<|q1 (.mks 1 1 [.int .i64 0] [(0,.l 3)])<|qC 284 [ci 1,.l 4]<|qn<|zO 2<|qe) 23 (rs 24 (qb 3 5<|qt 6 5 0<|qF 7<|qe) .ret) <| i1 25 (qr 8 16<|qm 2<|qq .geq 1<|yo<|qr 8 4<|qk .eql 2<|ya<|qr 8 15<|qm 2<|qq .neq 10<|y0 4<|qa 8<|zO 4<|qe) 39 (rs 40 (qb 3 5<|qt 6 5 0<|qT 7<|qe) .ret) <| rs 41 (qm 2<|qf 8 16<|qs 8 1 1 0<|qe) <| i1 43 (qb 8 17<|qm 2<|q3 (.call (.k 303) .no none [.l 0,.l 1])<|qe) 45 (r1 46 (qf 8 4<|qu 8 0 1<|qe)) <| rs 47 (qb 3 5<|qb 8 17<|qd 304<|qt 6 5 2<|qT 7<|qe) .ret
def F270 : F := mF 3 [.cell 6 (some 5),.t 7] none c270
attribute [go_sem] c270 F270
def c271 : C := rs 0 (qB 3 0<|qG 6 z_8<|qF 7<|qe) <| i1 8 (qb 3 5<|qc 249<|qn<|yo<|qm 1<|qm 2<|q1 (.mks 1 2 [.int .i64 0] [(0,.l 4),(1,.l 5)])<|qC 284 [ci 1,.l 6]<|qn<|zO 3<|qe) 17 (rs 18 (qb 3 5<|qt 6 5 0<|qF 7<|qe) .ret) <| i1 19 (qb 3 5<|qm 1<|qd 287<|qm 2<|q3 (.call (.k 302) .no none [.l 2,.l 3])<|qe) 23 (r1 24 (qb 3 5<|qm 1<|qd 308<|qt 3 5 2<|qe)) <| rs 27 (qr 3 4<|qm 2<|q1 (.mm true (.l 1) (.l 2))<|qf 3 4<|qs 3 1 4 3<|qe) <| rs 32 (qb 3 5<|qt 6 5 0<|qT 7<|qe) .ret
def F271 : F := mF 3 [.cell 6 (some 5),.t 7] none c271
attribute [go_sem] c271 F271
def c273 : C := rs 0 (qB 6 0<|qG 12 z_8<|qF 13<|qe) <| i1 19 (qb 6 5<|qc 249<|qn<|yo<|qm 1<|qm 2<|qm 4<|qm 5<|q1 (.mks 1 4 [.int .i64 0] [(0,.l 4),(1,.l 5),(2,.l 6),(3,.l 7)])<|qC 284 [ci 1,.l 8]<|qn<|zO 3<|qe) 30 (rs 31 (qb 6 5<|qt 12 5 0<|qF 13<|qe) .ret) <| rt 32 (qb 6 5<|qm 1<|qd 287<|qb 6 5<|qm 4<|qd 287<|qG 14 z_10<|qG 15 z_10<|qs 14 17 6 2<|qs 15 17 7 5<|qe) <| i1 38 (qr 14 0<|qk .neq 0<|ya<|qr 14 1<|qm 5<|qq .eql 5<|za 3<|ya<|qf 14 2<|qg 1<|ql 14<|qm 3<|qq .eql 12<|za 9<|ya<|qr 15 0<|qk .neq 0<|za 16<|ya<|qr 15 1<|qm 5<|qq .eql 23<|zA 21<|qe) 64 (rs 65 (qb 6 5<|qt 12 5 0<|qT 13<|qe) .ret) <| rs 67 (qR 14 2 2<|qm 3<|qd 178<|q2 66 (.mov (.l 3))<|qx 0<|qy 1<|qY 4 2<|qG 16 z_1<|qG 17 z_1<|qs 16 2 8 5<|qs 17 2 9 6<|qV 18 7<|qe) <| i1 74 (qb 14 17<|qm 2<|qd 309<|qn<|yo<|qm 5<|qm 2<|qq .leq 5<|zo 4<|yo<|qr 14 16<|qm 5<|qq .geq 11<|zo 9<|yo<|qr 15 0<|qk .neq 0<|zo 15<|yo<|qr 6 0<|qh false<|qk .eql 8<|zo 20<|yo<|qm 18<|qk .neq 0<|zO 26<|qe) 103 (rs 104 (qb 6 5<|qt 12 5 0<|qF 13<|qe) .ret) <| rs 105 (qb 14 17<|qt 15 17 0<|qe) <| rs 107 (qr 14 5<|qm 3<|qd 211<|q2 106 (.mov (.l 3))<|qx 0<|qy 1<|qf 14 5<|qs 14 1 7 5<|qf 15 5<|qs 15 1 9 6<|qe) <| rt 115 (qb 16 2<|qb 17 2<|qf 14 2<|qs 14 2 2 0<|qf 15 2<|qs 15 2 4 1<|qe) <| rs 119 (qm 5<|qm 5<|qm 4<|qf 14 1<|qs 14 1 3 0<|qf 15 1<|qs 15 1 5 1<|qf 15 0<|qs 15 1 7 2<|qe) <| rt 125 (qb 6 5<|qb 14 17<|qd 304<|qb 15 17<|qd 304<|qt 12 5 4<|qT 13<|qe) .ret
def F273 : F := mF 6 [.cell 12 (some 5),.t 13] none c273
attribute [go_sem] c273 F273
def c275 : C := rs 0 (qB 5 0<|qG 10 z_8<|qF 11<|qe) <| i1 20 (qb 5 5<|qc 249<|qn<|yo<|qm 1<|qm 2<|qm 3<|qm 4<|q1 (.mks 1 4 [.int .i64 0] [(0,.l 4),(1,.l 5),(2,.l 6),(3,.l 7)])<|qC 284 [ci 1,.l 8]<|qn<|zO 3<|qe) 31 (rs 32 (qb 5 5<|qt 10 5 0<|qF 11<|qe) .ret) <| rt 33 (qb 5 5<|qm 1<|qd 287<|qb 5 5<|qm 2<|qd 287<|qG 12 z_10<|qG 13 z_10<|qs 12 17 6 2<|qs 13 17 7 5<|qe) <| i1 39 (qr 12 0<|qk .neq 0<|ya<|qr 12 1<|qm 4<|qq .eql 5<|za 3<|ya<|qr 13 0<|qk .eql 0<|zA 9<|qe) 52 (rs 53 (qb 5 5<|qt 10 5 0<|qT 11<|qe) .ret) <| i1 54 (qb 12 17<|qm 3<|qd 309<|qn<|yo<|qb 13 17<|qr 13 1<|qC 309 (ls [5,7])<|qn<|zo 4<|yo<|qm 4<|qr 12 1<|qq .leq 12<|zo 11<|yo<|qm 4<|qr 13 1<|qq .leq 18<|zo 17<|yo<|qr 12 16<|qm 4<|qq .geq 25<|zO 23<|qe) 82 (rs 83 (qb 5 5<|qt 10 5 0<|qF 11<|qe) .ret) <| rs 85 (qR 12 2 2<|qR 13 2 2<|qC 311 (ls [1,3])<|q2 84 (.mov (.l 4))<|qx 0<|qy 1<|qG 14 z_1<|qs 14 2 8 6<|qV 15 7<|qe) <| rs 93 (qr 12 5<|qr 13 5<|qC 213 (ls [1,3])<|q2 92 (.mov (.l 4))<|qx 0<|qy 1<|qw 16<|qw 17<|qe) <| rs 101 (qr 12 12<|qr 13 12<|qC 91 (ls [1,3])<|q2 100 (.mov (.l 4))<|qx 0<|qy 1<|qw 18<|qw 19<|qe) <| i1 108 (qm 15<|qk .neq 0<|yo<|qm 17<|qk .neq 0<|zo 2<|yo<|qm 19<|qk .neq 0<|zO 6<|qe) 117 (rs 118 (qb 5 5<|qt 10 5 0<|qF 11<|qe) .ret) <| rs 119 (qb 14 2<|qm 18<|qm 4<|qf 12 2<|qs 12 2 3 0<|qf 12 12<|qs 12 1 5 1<|qf 12 1<|qs 12 1 7 2<|qf 12 15<|qu 12 9 0<|qe) <| rs 126 (qR 12 6 3<|qR 13 6 3<|qC 21 (ls [1,3])<|qf 12 6<|qs 12 3 5 4<|qe) <| rs 132 (qm 16<|qR 12 6 3<|qC 217 (ls [0,2])<|qf 12 5<|qs 12 1 4 3<|qe) <| rt 137 (qr 12 14<|qr 13 14<|q1 (.mm true (.l 1) (.l 3))<|qr 12 16<|qr 13 16<|q1 (.mm true (.l 6) (.l 8))<|qf 12 14<|qs 12 1 10 4<|qf 12 16<|qs 12 1 12 9<|qe) <| rs 149 (qb 5 5<|qb 12 17<|qd 304<|qm 2<|qd 308<|qt 10 5 4<|qT 11<|qe) .ret
def F275 : F := mF 5 [.cell 10 (some 5),.t 11] none c275
attribute [go_sem] c275 F275
def c284 : C := rs 0 (qB 2 0<|qF 4<|qe) <| rs 5 (qm 1<|q1 (.fn 313 [.g 2] [2])<|qd 67<|qn<|qv 4<|qe) .ret
def F284 : F := mF 2 [.t 4] none c284
attribute [go_sem] c284 F284
def c285 : C := rs 0 (qB 1 0<|qF 2<|qe) <| i1 3 (qr 1 0<|qr 1 1<|q1 (.mks 1 2 [.int .i64 0] [(0,.l 1),(1,.l 3)])<|qC 284 [ci 1,.l 4]<|qn<|yo<|qr 1 2<|qk .lss 1<|zo 7<|yo<|qr 1 2<|qk .gtr 6<|zo 12<|yo<|qr 1 4<|qh true<|qk .gtr 16<|zo 17<|yo<|qr 1 6<|qh true<|qk .gtr 16<|zo 23<|yo<|qr 1 11<|qk .lss 0<|zo 29<|yo<|qr 1 11<|qk .gtr 8<|zo 34<|yo<|qR 1 7 3<|qc 28<|qn<|zo 39<|yo<|qr 1 10<|q1 (.bin .neq (.l 47) (.c (.str [])))<|ya<|qr 1 10<|qc 170<|qn<|y0 45<|qa 49<|zO 45<|qe) 58 (rs 0 (qF 2<|qe) .ret) <| i1 59 (qr 1 2<|qK .eql 6<|qe) 61 (rs 62 (qr 1 3<|q1 (.bin .eql (.l 1) (.c (.str [])))<|yo<|qr 1 3<|qc 170<|zo 3<|ya<|qr 1 11<|qk .geq 1<|za 8<|qv 2<|qe) .ret) <| rs 75 (qr 1 3<|qc 170<|qv 2<|qe) .ret
def F285 : F := mF 1 [.t 2] none c285
attribute [go_sem] c285 F285
def c286 : C := rs 0 (qG 2 z_9<|qe) <| rs 3 (qm 0<|q1 (.build z_9 [(0,1,.l 0)])<|qt 2 9 1<|qe) .ret
def F286 : F := mF 1 [.cell 2 (some 9)] none c286
attribute [go_sem] c286 F286
def c287 : C := rs 0 (qB 2 0<|qG 4 z_10<|qe) <| sq (rs 8 (qb 2 5<|qm 1<|qd 314<|q2 7 (.mov (.l 2))<|qx 0<|qy 1<|qw 5<|qw 6<|qe) <| rs 13 (q3 (.mov (.g 6))<|qe) <| cd 13 (rs 14 (qr 2 0<|qm 5<|qi 17<|qJ 17<|qt 4 17 4<|qe) .ret) .skip) <| rs 19 (q1 (.build z_10 [])<|qt 4 17 0<|qe) .ret
def F287 : F := mF 2 [.cell 4 (some 17)] none c287
attribute [go_sem] c287 F287
def c288 : C := rs 0 (qB 1 0<|qF 2<|qe) <| rs 3 (qr 1 2<|qk .eql 1<|yo<|qr 1 2<|qk .eql 2<|zo 3<|yo<|qr 1 2<|qk .eql 3<|zo 8<|qv 2<|qe) .ret
def F288 : F := mF 1 [.t 2] none c288
attribute [go_sem] c288 F288
def c289 : C := rs 0 (qB 4 0<|qB 5 1<|qB 6 2<|qB 7 3<|qG 8 z_8<|qG 9 z_9<|qe) <| sq (rs 15 (qr 5 12<|qr 6 0<|qr 6 1<|q3 (.call (.k 82) .no none [.l 1,.l 3,.l 5])<|qe) <| bk 0 (rs 23 (q1 (.bin .eql (.g 21) (ci 2))<|qv 22<|qe) <| cd 22 (rs 25 (qr 5 12<|qr 6 0<|qC 84 (ls [1,3])<|q2 24 (.mov (.l 4))<|qx 0<|qy 1<|qG 10 z_4<|qs 10 11 8 6<|qD 11<|q1 (.mov (.l 7))<|qe) <| rt 32 (qb 4 5<|qR 10 2 9<|qt 8 5 0<|qt 9 9 2<|qe) .ret) <| rs 36 (q1 (.bin .eql (.g 21) (ci 3))<|qv 35<|qe) <| cd 35 (rt 37 (qb 4 5<|qC 286 [ci 10]<|qt 8 5 0<|qt 9 9 1<|qe) .ret) .skip)) <| i1 39 (qb 7 3<|qR 4 1 3<|qC 15 (ls [0,2])<|qK .leq 0<|qe) 43 (rt 44 (qb 4 5<|qC 286 [ci 1]<|qt 8 5 0<|qt 9 9 1<|qe) .ret) <| rs 46 (qb 4 5<|qb 5 17<|qr 6 3<|qC 290 (ls [0,1,3])<|qG 12 z_9<|qs 12 9 5 4<|qe) <| rs 51 (qb 7 3<|qr 12 4<|q1 (.build z_9 [(1,3,.l 0),(4,1,.l 2)])<|qG 13 z_9<|qs 13 9 4 3<|qe) <| rs 0 (qz 14 0<|qe) <| sq (bk 1 (rs 56 (qr 6 2<|qk .eql 3<|ya<|qr 12 4<|qr 6 5<|q1 (.eqb true (.l 5) (.l 7))<|yo<|qr 12 4<|ya<|qr 12 5<|qr 6 6<|qq .neq 14<|y0 9<|qa 12<|y1 3<|qo 9<|za 3<|qv 55<|qe) <| cd 55 (r2 77 (qr 12 5<|qf 13 0<|qu 13 2 15<|qf 13 5<|qs 13 1 4 1<|qe)) <| rs 82 (qr 6 2<|qk .neq 2<|qv 81<|qe) <| cd 81 (r1 86 (qr 5 5<|qr 6 3<|qb 7 3<|qr 6 4<|q1 (.build z_2 [(0,3,.l 4),(4,1,.l 6)])<|qC 200 (ls [1,3,7])<|q2 85 (.mov (.l 8))<|qx 0<|qy 1<|qf 5 5<|qs 5 1 12 10<|qV 14 11<|qe)) <| rs 99 (qr 12 4<|qv 98<|qe) <| cd 98 (r1 102 (qr 5 5<|qr 6 3<|qb 7 3<|q1 (.build z_2 [(0,3,.l 4),(3,1,.c (.bool true))])<|qC 200 (ls [1,3,5])<|q2 101 (.mov (.l 6))<|qx 0<|qy 1<|qf 5 5<|qs 5 1 10 8<|qV 14 9<|qe)) .skip)) <| i1 112 (qm 14<|qK .neq 0<|qe) 113 (rt 114 (qb 4 5<|qm 14<|qc 286<|qt 8 5 0<|qt 9 9 2<|qe) .ret) <| sq (rs 118 (qr 5 12<|qr 6 0<|qr 6 1<|qb 13 9<|q1 (.build z_4 [(0,1,.l 3),(1,1,.l 5),(2,9,.l 6)])<|qC 88 (ls [1,7])<|q2 117 (.mov (.l 8))<|qx 0<|qy 1<|qf 5 12<|qs 5 1 12 10<|qV 14 11<|qe) <| rs 130 (qm 14<|qK .neq 0<|qe) <| cd 131 (rt 132 (qb 4 5<|qm 14<|qc 286<|qt 8 5 0<|qt 9 9 2<|qe) .ret) .skip) <| rs 135 (qb 4 5<|qb 5 17<|qd 304<|qt 4 5 2<|qe) <| rs 138 (qb 7 3<|qf 4 1<|qs 4 3 1 0<|qe) <| rt 140 (qb 4 5<|qb 13 9<|qt 8 5 0<|qt 9 9 1<|qe) .ret
def F289 : F := mF 4 [.cell 8 (some 5),.cell 9 (some 9)] none c289
attribute [go_sem] c289 F289
def c290 : C := rs 0 (qB 3 0<|qB 4 1<|qG 6 z_9<|qe) <| rs 10 (qr 4 5<|qm 2<|qR 3 1 3<|qC 312 (ls [1,2,4])<|q2 9 (.mov (.l 5))<|qx 0<|qy 1<|qG 7 z_2<|qs 7 5 9 7<|qV 8 8<|qe) <| rs 18 (qR 7 0 3<|qm 8<|ya<|qr 7 3<|qn<|za 3<|qr 7 4<|q1 (.build z_9 [(1,3,.l 1),(4,1,.l 7),(5,1,.l 9)])<|qt 6 9 10<|qe) .ret
def F290 : F := mF 3 [.cell 6 (some 9)] none c290
attribute [go_sem] c290 F290
def c291 : C := rs 0 (qB 4 0<|qB 5 1<|qB 6 2<|qG 8 z_8<|qG 9 z_9<|qe) <| sq (bk 0 (rs 16 (qR 6 7 3<|qR 5 6 3<|qC 15 (ls [1,3])<|qk .lss 0<|qv 15<|qe) <| cd 15 (rt 22 (qb 4 5<|qC 286 [ci 13]<|qt 8 5 0<|qt 9 9 1<|qe) .ret) <| rs 25 (qf 6 7<|qg 0<|ql 6<|qk .sub 1000<|qm 3<|qq .gtr 3<|qv 24<|qe) <| cd 24 (rt 31 (qb 4 5<|qC 286 [ci 12]<|qt 8 5 0<|qt 9 9 1<|qe) .ret) .skip)) <| rs 33 (qR 4 1 3<|qR 6 7 3<|qC 21 (ls [1,3])<|qf 4 1<|qs 4 3 5 4<|qe) <| rs 39 (qR 6 7 3<|q1 (.build z_9 [(1,3,.l 1)])<|qG 10 z_9<|qs 10 9 3 2<|qe) <| i1 42 (qr 6 2<|qK .eql 5<|qe) 44 (rs 46 (qr 5 5<|qr 6 3<|qR 6 7 3<|qC 312 (ls [1,3,5])<|q2 45 (.mov (.l 6))<|qx 0<|qy 1<|qG 11 z_2<|qs 11 5 10 8<|qV 12 9<|qe) <| rt 55 (qm 12<|ya<|qr 11 3<|qn<|za 1<|qr 11 4<|qf 10 4<|qs 10 1 8 5<|qf 10 5<|qs 10 1 10 7<|qe) <| rt 65 (qb 4 5<|qb 10 9<|qt 8 5 0<|qt 9 9 1<|qe) .ret) <| rs 67 (qr 6 10<|qv 13<|qe) <| rs 69 (qf 5 2<|qg 1<|ql 5<|q1 (.bin .neq (.l 2) (.c (.str [])))<|ya<|qm 13<|q1 (.bin .eql (.l 5) (.c (.str [])))<|yo<|qf 5 2<|qg 1<|ql 5<|qm 13<|qd 192<|qk .lss 0<|y1 4<|qo 7<|za 4<|qv 14<|qe) <| i1 85 (q3 (.mov (.g 14))<|qe) 85 (r1 86 (qf 5 2<|qg 1<|ql 5<|qv 13<|qe)) <| rs 90 (qr 5 5<|qr 6 3<|qm 13<|qR 6 7 3<|qr 6 11<|qC 206 (ls [1,3,4,6,8])<|q2 89 (.mov (.l 9))<|qx 0<|qy 1<|qY 10 2<|qf 10 6<|qs 10 1 14 11<|qf 10 7<|qs 10 1 16 12<|qf 10 8<|qs 10 1 18 13<|qe) <| i1 106 (qm 14<|ya<|qr 10 8<|qn<|zA 1<|qe) 111 (r1 112 (qm 13<|qf 10 7<|qs 10 1 1 0<|qf 10 8<|q5 (.store (.v 10) 1 (.l 3) (cb true))<|qe)) <| rt 115 (qb 4 5<|qb 10 9<|qt 8 5 0<|qt 9 9 1<|qe) .ret
def F291 : F := mF 4 [.cell 8 (some 5),.cell 9 (some 9)] none c291
attribute [go_sem] c291 F291
def c298 : C := rs 0 (qB 2 0<|qF 3<|qe) <| rs 4 (qf 1 2<|qJ 2<|qr 2 0<|qC 171 (ls [1,3])<|qn<|qv 3<|qe) .ret
def F298 : F := mF 2 [.t 3] none c298
attribute [go_sem] c298 F298
def c299 : C := rs 0 (qF 4<|qe) <| rs 5 (qm 0<|qm 1<|qd 315<|qk .geq 0<|qv 4<|qe) .ret
def F299 : F := mF 2 [.t 4] none c299
attribute [go_sem] c299 F299
def c301 : C := rs 0 (qB 2 0<|qB 3 1<|qF 4<|qe) <| rs 5 (qr 2 5<|q1 (.fn 316 [.g 3] [3])<|qd 299<|qn<|qv 4<|qe) .ret
def F301 : F := mF 2 [.t 4] none c301
attribute [go_sem] c301 F301
def c302 : C := rs 0 (qB 2 0<|qF 4<|qe) <| rs 5 (qr 2 4<|qk .eql 3<|ya<|qr 2 15<|qm 1<|qq .eql 5<|za 3<|qv 4<|qe) .ret
def F302 : F := mF 2 [.t 4] none c302
attribute [go_sem] c302 F302
def c303 : C := rs 0 (qB 2 0<|qF 4<|qe) <| rs 5 (qr 2 4<|qk .eql 2<|ya<|qr 2 15<|qm 1<|qq .eql 5<|za 3<|qv 4<|qe) .ret
def F303 : F := mF 2 [.t 4] none c303
attribute [go_sem] c303 F303
def c304 : C := rs 0 (qB 2 0<|qB 3 1<|qG 4 z_8<|qe) <| rs 8 (qb 2 5<|qr 3 0<|q1 (.call (.k 314) .borrow none [.l 0,.l 2])<|q2 7 (.mov (.l 3))<|qx 0<|qy 1<|qw 5<|qw 6<|qe) <| rs 14 (qr 2 0<|q1 (.call (.k 307) .freeze (some 0) [.l 1])<|qf 2 0<|qs 2 1 3 2<|qe) <| sq (rs 18 (q3 (.mov (.g 6))<|qe) <| cd 18 (r1 19 (qr 2 0<|qm 5<|qb 3 17<|q1 (.iad 17 (.l 1) (.l 2))<|q5 (.store (.e 16) 17 (.l 4) (.l 3))<|qe)) <| r1 24 (qr 2 0<|qm 5<|qb 3 17<|q1 (.mks 17 1 z_10 [(0,.l 3)])<|q1 (.ins 317 16 17 (.l 1) (.l 2) (.l 4))<|qf 2 0<|qs 2 1 6 5<|qe)) <| rs 31 (qb 2 5<|qt 4 5 0<|qe) .ret
def F304 : F := mF 2 [.cell 4 (some 5)] none c304
attribute [go_sem] c304 F304
def c308 : C := rs 0 (qB 2 0<|qG 4 z_8<|qe) <| sq (rs 8 (qb 2 5<|qm 1<|q1 (.call (.k 314) .borrow none [.l 0,.l 1])<|q2 7 (.mov (.l 2))<|qx 0<|qy 1<|qw 5<|qw 6<|qe) <| rs 13 (q3 (.mov (.g 6))<|qe) <| cd 13 (r1 14 (qr 2 0<|q1 (.call (.k 307) .freeze (some 0) [.l 1])<|qm 5<|qm 5<|qk .add 1<|q1 (.del 318 16 17 (.l 2) (.l 3) (.l 5))<|qf 2 0<|qs 2 1 7 6<|qe)) .skip) <| rs 22 (qb 2 5<|qt 4 5 0<|qe) .ret
def F308 : F := mF 2 [.cell 4 (some 5)] none c308
attribute [go_sem] c308 F308
def c309 : C := rs 0 (qB 2 0<|qF 4<|qe) <| rs 5 (qr 2 0<|qk .neq 0<|ya<|qr 2 1<|qm 1<|qq .eql 5<|za 3<|ya<|qr 2 4<|qk .eql 1<|za 9<|ya<|qr 2 13<|qk .eql 0<|za 14<|qv 4<|qe) .ret
def F309 : F := mF 2 [.t 4] none c309
attribute [go_sem] c309 F309
def c311 : C := rs 0 (qB 2 0<|qB 3 1<|qG 4 z_1<|qz 5 0<|qe) <| sq (bk 0 (rs 7 (qb 2 2<|qc 186<|qn<|yo<|qb 3 2<|qc 186<|qn<|zo 3<|qv 6<|qe) <| cd 6 (rs 15 (q1 (.build z_1 [])<|qt 4 2 0<|qz 5 1<|qe) .ret) <| rs 17 (qr 2 1<|q1 (.bin .eql (.l 1) (.c (.str [])))<|yo<|qr 2 1<|qr 3 0<|qq .neq 5<|zo 3<|qv 16<|qe) <| cd 16 (rs 27 (q1 (.build z_1 [])<|qt 4 2 0<|qz 5 9<|qe) .ret) .skip)) <| rs 28 (qr 2 0<|qr 3 1<|q1 (.build z_1 [(0,1,.l 1),(1,1,.l 3)])<|qt 4 2 4<|qz 5 0<|qe) .ret
def F311 : F := mF 2 [.cell 4 (some 2),.t 5] none c311
attribute [go_sem] c311 F311
def c312 : C := rs 0 (qB 5 2<|qG 6 z_2<|qF 7<|qe) <| i1 10 (qm 0<|qc 203<|qN<|qe) 12 (rs 13 (q1 (.build z_2 [])<|qt 6 5 0<|qF 7<|qe) .ret) <| rs 15 (qm 0<|qm 1<|qd 220<|q2 14 (.mov (.l 2))<|qx 0<|qy 1<|qw 8<|qw 9<|qe) <| i1 20 (qm 9<|qN<|qe) 21 (rs 22 (q1 (.build z_2 [])<|qt 6 5 0<|qF 7<|qe) .ret) <| rt 23 (qm 0<|qm 8<|qi 2<|qg 1<|qj<|qb 5 3<|qd 10<|qx 0<|qy 1<|qt 6 5 7<|qw 7<|qe) .ret
def F312 : F := mF 3 [.cell 6 (some 5),.t 7] none c312
attribute [go_sem] c312 F312
def c313 : C := rs 0 (qF 3<|qe) <| rs 4 (qm 0<|q1 (.load (.c) none (.g 1))<|qq .lss 0<|yo<|qm 0<|qk .gtr 1099511627776<|zo 3<|qv 3<|qe) .ret
def F313 : F := mF 2 [.t 3] none c313
attribute [go_sem] c313 F313
def c314 : C := rs 0 (qB 2 0<|qz 4 0<|qF 5<|qe) <| rs 6 (qr 2 0<|qm 1<|qC 319 [.l 1,.l 2,.f 320]<|qx 0<|qy 1<|qw 4<|qw 5<|qe) .ret
def F314 : F := mF 2 [.t 4,.t 5] none c314
attribute [go_sem] c314 F314
def l315_0 : C := .loop [] [] [] [] (rs 9 (q3 (.bin .lss (.g 8) (.g 7))<|qe) <| sq (cd 9 .skip <| .exit 0) <| sq (bk 1 (rs 10 (qm 8<|qv 5<|qe) <| rs 11 (qm 1<|qm 0<|qm 5<|qi 2<|qJ 2<|q3 (.call (.v (.l 0)) .no none [.l 4])<|qe) <| cd 16 (rs 17 (qm 5<|qv 4<|qe) .ret) .skip)) <| r1 18 (q1 (.bin .add (.g 8) (ci 1))<|qv 8<|qe))
def c315 : C := rs 0 (qz 4 0<|qe) <| sq (rs 6 (qm 0<|qH false<|q3 (.mov (ci 0))<|qe) <| bk 0 l315_0) <| rs 0 (qz 4 (-1)<|qe) .ret
def F315 : F := mF 2 [.t 4] none c315
attribute [go_sem] c315 F315
def c316 : C := rs 0 (qB 2 0<|qF 3<|qe) <| rt 4 (qr 2 1<|qr 2 1<|qh false<|qk .sub 1<|q1 (.iad 5 (.l 1) (.l 5))<|qg 0<|qJ 3<|q1 (.load (.c) (some 3) (.g 1))<|qd 15<|qk .gtr 0<|qv 3<|qe) .ret
def F316 : F := mF 2 [.t 3] none c316
attribute [go_sem] c316 F316
def l319_0 : C := .loop [] [] [] [] (lq 15 (qm 9<|qm 10<|qQ .lss 0<|qe) 17 0 <| bk 1 (rs 18 (qm 9<|qm 10<|qq .add 0<|q1 (.conv (.int .u64) (.l 2))<|q1 (.sh .shr (.l 3) (.c (.int .u64 1)))<|q1 (.conv (.int .i64) (.l 4))<|qv 11<|qe) <| rs 24 (qm 2<|qm 0<|qm 11<|qi 17<|qJ 17<|qm 1<|q1 (.call (.v (.l 0)) .no none [.l 4,.l 5])<|qK .lss 0<|qe) <| cd 31 (r1 32 (qm 11<|qk .add 1<|qv 9<|qe)) <| r1 34 (qm 11<|qv 10<|qe)))
def c319 : C := rs 0 (qz 6 0<|qF 7<|qe) <| rs 12 (qm 0<|qh false<|qv 8<|qe) <| rs 14 (qm 8<|qz 9 0<|qw 10<|qe) <| sq (bk 0 l319_0) <| rs 35 (qm 9<|qm 9<|qm 8<|qq .lss 1<|ya<|qm 2<|qm 0<|qm 9<|qi 17<|qJ 17<|qm 1<|q1 (.call (.v (.l 5)) .no none [.l 9,.l 10])<|qk .eql 0<|za 4<|qV 6 0<|qw 7<|qe) .ret
def F319 : F := mF 3 [.t 6,.t 7] none c319
attribute [go_sem] c319 F319
def c320 : C := rs 0 (qB 2 0<|qz 4 0<|qe) <| rs 5 (qr 2 0<|qm 1<|qq .sub 1<|qv 4<|qe) .ret
def F320 : F := mF 2 [.t 4] none c320
attribute [go_sem] c320 F320
def c109 : C := rs 0 (qB 3 0<|qG 6 z_3<|qe) <| i1 10 (qm 2<|qc 126<|qn<|yo<|qm 1<|qh false<|qk .eql 0<|zo 3<|yo<|qb 3 3<|qc 28<|qn<|zo 8<|yo<|qm 1<|qC 128 [.l 14,.f 129]<|zO 13<|qe) 26 (rs 27 (qb 3 3<|qt 6 3 0<|qe) .ret) <| rs 28 (qm 1<|qC 130 [.l 0,.f 15]<|qG 7 z_3<|qs 7 3 2 1<|qe) <| sq (rs 31 (qm 2<|qc 113<|q2 30 (.mov (.l 1))<|qx 0<|qy 1<|qG 8 z_3<|qs 8 3 5 3<|qV 9 4<|qe) <| rs 35 (q3 (.mov (.g 9))<|qe) <| cd 35 (r1 36 (qb 7 3<|qb 8 3<|qd 131<|qt 7 3 2<|qe)) .skip) <| rs 39 (qb 3 3<|qb 7 3<|qd 21<|qt 6 3 2<|qe) .ret
def F109 : F := mF 3 [.cell 6 (some 3)] none c109
attribute [go_sem] c109 F109
def l112_0 : C := .loop [] [] [5] [] (rs 12 (q3 (.bin .lss (.g 11) (.g 10))<|qe) <| sq (cd 12 .skip <| .exit 0) <| sq (bk 1 (rs 13 (q1 (.iad 5 (.g 9) (.g 11))<|qJ 5<|qG 5 z_11<|qs 5 5 2 1<|qe) <| rs 15 (qr 5 1<|qk .sub 1<|qf 5 1<|qs 5 1 3 2<|qe) <| rs 19 (qr 5 1<|qK .gtr 0<|qe) <| cd 21 (r1 22 (qm 3<|qb 5 5<|q1 (.mks 5 1 z_11 [(0,.l 1)])<|q1 (.app 3 5 (.l 0) (.l 2))<|qv 3<|qe)) .skip)) <| r1 26 (q1 (.bin .add (.g 11) (ci 1))<|qv 11<|qe))
def c112 : C := rs 0 (qS 2 5<|qe) <| i1 6 (qm 0<|qc 126<|qN<|qe) 8 (rs 0 (qS 2 5<|qe) .ret) <| rs 3 (q3 (.mko 5)<|qe) <| sq (rs 9 (q3 (.mov (.g 0))<|qH false<|q3 (.mov (ci 0))<|qe) <| bk 0 l112_0) <| rs 27 (qm 3<|qv 2<|qe) .ret
def F112 : F := mF 1 [.t 2] none c112
attribute [go_sem] c112 F112
def l113_0 : C := .loop [] [] [6] [] (rs 23 (q3 (.bin .lss (.g 22) (.g 21))<|qe) <| sq (cd 23 .skip <| .exit 0) <| sq (bk 1 (rs 24 (q1 (.iad 5 (.g 20) (.g 22))<|qJ 5<|qG 6 z_11<|qs 6 5 2 1<|qe) <| r1 26 (qb 4 3<|qR 6 2 3<|qC 131 (ls [0,2])<|qt 4 3 3<|qe))) <| r1 30 (q1 (.bin .add (.g 22) (ci 1))<|qv 22<|qe))
def c113 : C := rs 0 (qG 2 z_3<|qF 3<|qe) <| i1 7 (qm 0<|qc 126<|qn<|yo<|qm 0<|qh false<|qk .eql 0<|zO 3<|qe) 14 (rs 15 (q1 (.build z_3 [])<|qt 2 3 0<|qF 3<|qe) .ret) <| rs 16 (qm 0<|q1 (.iad 5 (.l 0) (ci 0))<|qg 2<|qJ 3<|qG 4 z_3<|qs 4 3 4 3<|qe) <| sq (rs 20 (q3 (.mov (.g 0))<|qH false<|q3 (.mov (ci 0))<|qe) <| bk 0 l113_0) <| rs 31 (qb 4 3<|qt 2 3 0<|qT 3<|qe) .ret
def F113 : F := mF 1 [.cell 2 (some 3),.t 3] none c113
attribute [go_sem] c113 F113
def l116_0 : C := .loop [] [] [] [] (lq 11 (qm 5<|qm 0<|qh false<|qQ .lss 0<|qe) 14 0 <| sq (bk 1 (rt 17 (qm 0<|qm 5<|qi 5<|qJ 5<|qm 1<|qm 5<|qi 5<|qJ 5<|q3 (.eqa true [.i,.i,.i,.i,.i] (.l 3) (.l 7))<|qe) <| cd 25 (rs 0 (qF 4<|qe) .ret) .skip)) <| r1 15 (qm 5<|qk .add 1<|qv 5<|qe))
def c116 : C := rs 0 (qF 4<|qe) <| i1 6 (qm 0<|qh false<|qm 1<|qh false<|qQ .neq 1<|qe) 10 (rs 0 (qF 4<|qe) .ret) <| sq (rs 0 (qz 5 0<|qe) <| bk 0 l116_0) <| rs 0 (qT 4<|qe) .ret
def F116 : F := mF 2 [.t 4] none c116
attribute [go_sem] c116 F116
def c120 : C := rs 0 (qB 5 2<|qS 6 5<|qz 7 0<|qe) <| rs 11 (qm 1<|qb 5 3<|q1 (.build z_11 [(0,1,.l 0),(1,1,.c (.int .i64 20)),(2,3,.l 1)])<|qG 8 z_11<|qs 8 5 3 2<|qe) <| i1 14 (qm 0<|qc 126<|qn<|yo<|qb 8 5<|q1 (.mks 5 1 z_11 [(0,.l 4)])<|qc 126<|qn<|zO 3<|qe) 22 (rs 0 (qS 6 5<|qz 7 1<|qe) .ret) <| rs 24 (qm 0<|qm 1<|qd 133<|q2 23 (.mov (.l 2))<|qx 0<|qy 1<|qw 9<|qw 10<|qe) <| sq (bk 0 (rs 30 (qm 10<|qv 29<|qe) <| cd 29 (rs 0 (qS 6 5<|qz 7 8<|qe) .ret) <| rs 32 (qm 0<|qh false<|qk .eql 4<|qv 31<|qe) <| cd 31 (rs 0 (qS 6 5<|qz 7 6<|qe) .ret) .skip)) <| rt 35 (qm 0<|q1 (.call (.k 134) .no (some 0) [.l 0])<|qm 9<|qb 8 5<|q1 (.mks 5 1 z_11 [(0,.l 3)])<|q1 (.ins 135 36 5 (.l 1) (.l 2) (.l 4))<|qv 6<|qz 7 0<|qe) .ret
def F120 : F := mF 3 [.t 6,.t 7] none c120
attribute [go_sem] c120 F120
def c121 : C := rs 0 (qS 4 5<|qz 5 0<|qe) <| i1 8 (qm 0<|qc 126<|qN<|qe) 10 (rs 0 (qS 4 5<|qz 5 1<|qe) .ret) <| rs 12 (qm 0<|qm 1<|qd 133<|q2 11 (.mov (.l 2))<|qx 0<|qy 1<|qw 6<|qw 7<|qe) <| i1 17 (qm 7<|qN<|qe) 18 (rs 0 (qS 4 5<|qz 5 7<|qe) .ret) <| rs 19 (qm 0<|q1 (.call (.k 134) .no (some 0) [.l 0])<|qm 6<|qm 6<|qk .add 1<|q1 (.del 136 20 5 (.l 1) (.l 2) (.l 4))<|qv 4<|qz 5 0<|qe) .ret
def F121 : F := mF 2 [.t 4,.t 5] none c121
attribute [go_sem] c121 F121
def l126_0 : C := .loop [] [] [5] [] (rs 9 (q3 (.bin .lss (.g 8) (.g 7))<|qe) <| sq (cd 9 .skip <| .exit 0) <| sq (bk 1 (rs 10 (q1 (.iad 5 (.g 6) (.g 8))<|qJ 5<|qG 5 z_11<|qs 5 5 2 1<|qe) <| i1 12 (qr 5 0<|qm 3<|qq .leq 1<|yo<|qr 5 0<|qk .gtr 1099511627776<|zo 4<|yo<|qr 5 1<|qk .lss 1<|zo 9<|yo<|qr 5 1<|qk .gtr 20<|zo 14<|yo<|qR 5 2 3<|qc 28<|qn<|zO 19<|qe) 36 (rs 0 (qF 2<|qe) .ret) <| r1 37 (qr 5 0<|qv 3<|qe))) <| r1 39 (q1 (.bin .add (.g 8) (ci 1))<|qv 8<|qe))
def c126 : C := rs 0 (qF 2<|qe) <| rs 0 (qz 3 0<|qe) <| sq (rs 6 (q3 (.mov (.g 0))<|qH false<|q3 (.mov (ci 0))<|qe) <| bk 0 l126_0) <| rs 40 (qm 0<|qh false<|qk .leq 4<|qv 2<|qe) .ret
def F126 : F := mF 1 [.t 2] none c126
attribute [go_sem] c126 F126
def c128 : C := rs 0 (qF 4<|qe) <| rs 5 (qm 0<|qm 1<|qd 137<|qk .geq 0<|qv 4<|qe) .ret
def F128 : F := mF 2 [.t 4] none c128
attribute [go_sem] c128 F128
def c129 : C := rs 0 (qB 1 0<|qF 2<|qe) <| rs 3 (qb 1 3<|qc 28<|qn<|qv 2<|qe) .ret
def F129 : F := mF 1 [.t 2] none c129
attribute [go_sem] c129 F129
def l130_0 : C := .loop [] [] [] [] (lq 14 (qm 6<|qm 0<|qh false<|qQ .lss 0<|qe) 17 0 <| sq (bk 1 (rt 20 (qm 1<|qm 0<|qm 6<|qi 3<|qJ 3<|qb 5 3<|q1 (.call (.v (.l 0)) .no none [.l 4,.l 5])<|qK .lss 0<|qe) <| cd 27 (r1 28 (qm 0<|qm 6<|qi 3<|qJ 3<|qt 5 3 3<|qe)) .skip)) <| r1 18 (qm 6<|qk .add 1<|qv 6<|qe))
def c130 : C := rs 0 (qG 4 z_3<|qe) <| i1 7 (qm 0<|qh false<|qK .lss 1<|qe) 9 (r1 10 (q1 (.bad)<|q5 (.bad)<|qe)) <| rs 11 (qm 0<|q1 (.iad 3 (.l 0) (ci 0))<|qJ 3<|qG 5 z_3<|qs 5 3 3 2<|qe) <| sq (rs 0 (qz 6 1<|qe) <| bk 0 l130_0) <| rs 32 (qb 5 3<|qt 4 3 0<|qe) .ret
def F130 : F := mF 2 [.cell 4 (some 3)] none c130
attribute [go_sem] c130 F130
def c131 : C := rs 0 (qB 2 0<|qB 3 1<|qG 4 z_3<|qe) <| i1 5 (qb 2 3<|qb 3 3<|qd 15<|qK .gtr 0<|qe) 8 (rs 9 (qb 3 3<|qt 4 3 0<|qe) .ret) <| rs 10 (qb 2 3<|qt 4 3 0<|qe) .ret
def F131 : F := mF 2 [.cell 4 (some 3)] none c131
attribute [go_sem] c131 F131
def c133 : C := rs 0 (qB 3 1<|qz 4 0<|qF 5<|qe) <| rs 7 (qm 0<|q1 (.fn 138 [.g 3] [3])<|qd 139<|qv 6<|qe) <| i1 10 (qm 6<|qK .lss 0<|qe) 11 (rs 12 (qm 0<|qh false<|qv 4<|qF 5<|qe) .ret) <| rt 14 (qm 6<|qm 0<|qm 6<|qi 5<|qg 0<|qj<|q1 (.load (.v 3) none (.g 3))<|qq .eql 5<|qV 4 0<|qw 5<|qe) .ret
def F133 : F := mF 2 [.t 4,.t 5] none c133
attribute [go_sem] c133 F133
def l137_0 : C := .loop [] [] [] [] (rs 9 (q3 (.bin .lss (.g 8) (.g 7))<|qe) <| sq (cd 9 .skip <| .exit 0) <| sq (bk 1 (rs 10 (qm 8<|qv 5<|qe) <| rs 11 (qm 1<|qm 0<|qm 5<|qi 3<|qJ 3<|q3 (.call (.v (.l 0)) .no none [.l 4])<|qe) <| cd 16 (rs 17 (qm 5<|qv 4<|qe) .ret) .skip)) <| r1 18 (q1 (.bin .add (.g 8) (ci 1))<|qv 8<|qe))
def c137 : C := rs 0 (qz 4 0<|qe) <| sq (rs 6 (qm 0<|qH false<|q3 (.mov (ci 0))<|qe) <| bk 0 l137_0) <| rs 0 (qz 4 (-1)<|qe) .ret
def F137 : F := mF 2 [.t 4] none c137
attribute [go_sem] c137 F137
def c138 : C := rs 0 (qB 2 0<|qF 3<|qe) <| rs 4 (qr 2 0<|q1 (.load (.c) none (.g 1))<|qq .geq 1<|qv 3<|qe) .ret
def F138 : F := mF 2 [.t 3] none c138
attribute [go_sem] c138 F138
def l139_0 : C := .loop [] [] [] [] (rs 9 (q3 (.bin .lss (.g 8) (.g 7))<|qe) <| sq (cd 9 .skip <| .exit 0) <| sq (bk 1 (rs 10 (qm 8<|qv 5<|qe) <| rs 11 (qm 1<|qm 0<|qm 5<|qi 5<|qJ 5<|q3 (.call (.v (.l 0)) .no none [.l 4])<|qe) <| cd 16 (rs 17 (qm 5<|qv 4<|qe) .ret) .skip)) <| r1 18 (q1 (.bin .add (.g 8) (ci 1))<|qv 8<|qe))
def c139 : C := rs 0 (qz 4 0<|qe) <| sq (rs 6 (qm 0<|qH false<|q3 (.mov (ci 0))<|qe) <| bk 0 l139_0) <| rs 0 (qz 4 (-1)<|qe) .ret
def F139 : F := mF 2 [.t 4] none c139
attribute [go_sem] c139 F139
def l327_0 : C := .loop [] [] [] [] (lq 6 (qm 2<|qK .leq 3<|qe) 7 0 <| sq (bk 1 (r2 10 (qr 1 1<|qm 2<|q1 (.call (.k 345) .freeze none [.l 2])<|q1 (.build z_12 [(0,1,.c (.int .i64 1)),(1,1,.l 3),(2,1,.c (.bool true))])<|q1 (.mks 3 1 z_12 [(0,.l 4)])<|q1 (.app 16 3 (.l 1) (.l 5))<|qf 1 1<|qs 1 1 7 6<|qe))) <| r1 8 (qm 2<|qk .add 1<|qv 2<|qe))
def c327 : C := rs 0 (qG 0 z_13<|qe) <| rt 3 (q1 (.call (.k 154) .freeze none [])<|q1 (.mks 3 3 z_3 [])<|q1 (.build [.slice 5 [],.nslice 3,.int .i64 0,.slice 5 [],.slice 3 [],.int .i64 0,.int .i64 0,.int .i64 0,.int .i64 0,.int .i64 0,.int .i64 0,.int .i64 0,.int .i64 0,.int .i64 0,.int .i64 0,.int .i64 0,.str [],.slice 1 [],.int .i64 0,.int .i64 0,.int .i64 0,.str [],.str [],.slice 1 [],.int .i64 0,.int .i64 0,.int .i64 0,.slice 1 [],.slice 7 []] [(0,1,.l 0),(2,1,.c (.int .i64 2)),(4,1,.l 1)])<|qG 1 z_14<|qs 1 29 3 2<|qe) <| sq (rs 0 (qz 2 1<|qe) <| bk 0 l327_0) <| rs 18 (qb 1 29<|qt 0 29 0<|qe) .ret
def F327 : F := mF 0 [.cell 0 (some 29)] none c327
attribute [go_sem] c327 F327
def l328_0 : C := .loop [] [] [] [] (rs 58 (q3 (.bin .lss (.g 57) (ci 3))<|qe) <| sq (cd 58 .skip <| .exit 0) <| sq (bk 1 (rs 59 (qm 57<|qv 3<|qe) <| rs 60 (qr 1 1<|qm 3<|qi 3<|qg 0<|qj<|q1 (.mks 1 1 [.int .i64 0] [(0,.l 5)])<|qC 347 [ci 1,.l 6]<|qn<|yo<|qr 1 1<|qm 3<|qi 3<|qg 1<|qj<|qc 348<|qn<|zo 9<|yo<|qr 1 4<|qm 3<|qi 3<|qJ 3<|qc 28<|qn<|zO 19<|qe) <| cd 87 (rs 0 (qF 2<|qe) .ret) .skip)) <| r1 88 (q1 (.bin .add (.g 57) (ci 1))<|qv 57<|qe))
def l328_1 : C := .loop [] [] [6] [] (rs 93 (q3 (.bin .lss (.g 92) (.g 91))<|qe) <| sq (cd 93 .skip <| .exit 2) <| sq (bk 3 (rs 94 (q1 (.iad 7 (.g 90) (.g 92))<|qJ 7<|qG 6 z_15<|qs 6 7 2 1<|qe) <| i1 96 (qr 6 0<|qm 4<|qq .leq 1<|yo<|qr 6 0<|qk .gtr 8<|zo 4<|yo<|qr 6 1<|qr 6 2<|q1 (.mks 1 2 [.int .i64 0] [(0,.l 11),(1,.l 13)])<|qC 347 [ci 0,.l 14]<|qn<|zo 9<|yo<|qR 6 3 3<|qc 28<|qn<|zo 18<|yo<|qr 6 6<|qk .lss 0<|zo 24<|yo<|qr 6 6<|qk .gtr 16<|zO 29<|qe) 129 (rs 0 (qF 2<|qe) .ret) <| r1 130 (qr 6 0<|qv 4<|qe))) <| r1 132 (q1 (.bin .add (.g 92) (ci 1))<|qv 92<|qe))
def c328 : C := rs 0 (qB 1 0<|qF 2<|qe) <| i1 7 (qr 1 0<|qc 141<|qn<|yo<|qr 1 3<|qc 126<|qn<|zo 4<|yo<|qr 1 1<|qh false<|qk .neq 3<|zo 10<|yo<|qr 1 4<|qh false<|qk .neq 3<|zo 16<|yo<|qr 1 2<|qk .lss 2<|zo 22<|yo<|qr 1 2<|qk .gtr 1099511627776<|zo 27<|yo<|qR 1 5 3<|qc 28<|qn<|zo 32<|yo<|qR 1 8 20<|qc 346<|qn<|zo 38<|yo<|qr 1 28<|qh false<|qk .gtr 8<|zO 44<|qe) 56 (rs 0 (qF 2<|qe) .ret) <| sq (rs 0 (qz 57 0<|qe) <| bk 0 l328_0) <| rs 0 (qz 4 0<|qe) <| sq (rs 89 (qf 1 28<|q3 (.load (.v 1) none (.l 0))<|qH false<|q3 (.mov (ci 0))<|qe) <| bk 2 l328_1) <| rs 0 (qT 2<|qe) .ret
def F328 : F := mF 1 [.t 2] none c328
attribute [go_sem] c328 F328
def c331 : C := rs 0 (qB 2 0<|qB 3 1<|qG 4 z_13<|qz 5 0<|qe) <| i1 11 (qb 2 29<|qc 328<|qn<|yo<|qr 3 0<|qk .lss 1<|zo 3<|yo<|qr 3 0<|qk .gtr 6<|zo 8<|yo<|qr 3 0<|qk .eql 4<|zO 13<|qe) 28 (rs 29 (qb 2 29<|qt 4 29 0<|qz 5 1<|qe) .ret) <| sq (bk 0 (rs 31 (qr 3 0<|qk .eql 6<|qv 30<|qe) <| cd 30 (rs 34 (qb 2 29<|qc 352<|qx 0<|qy 1<|qt 4 29 2<|qw 5<|qe) .ret) <| rs 39 (qf 2 8<|qg 0<|ql 2<|qk .neq 0<|qv 38<|qe) <| cd 38 (rs 43 (qb 2 29<|qt 4 29 0<|qz 5 11<|qe) .ret) <| rs 45 (qr 2 2<|qk .eql 1099511627776<|qv 44<|qe) <| cd 44 (rs 48 (qb 2 29<|qt 4 29 0<|qz 5 6<|qe) .ret) .skip)) <| rs 49 (qr 3 0<|qr 2 2<|q1 (.build z_16 [(0,1,.l 1),(1,1,.c (.int .i64 1)),(2,1,.l 3)])<|qG 6 z_16<|qs 6 20 5 4<|qe) <| sq (rs 54 (qr 3 0<|qK .eql 5<|qe) <| cd 56 (i1 57 (qr 3 3<|qk .lss 1<|yo<|qr 3 3<|qk .gtr 3<|zo 3<|yo<|qr 3 5<|qc 348<|qn<|zO 8<|qe) 70 (rs 71 (qb 2 29<|qt 4 29 0<|qz 5 1<|qe) .ret) <| sq (rs 72 (qr 2 1<|qr 3 3<|qk .sub 1<|q1 (.iad 3 (.l 1) (.l 4))<|qJ 3<|qG 7 z_12<|qs 7 3 7 6<|qe) <| bk 1 (rs 80 (qr 7 2<|qn<|qv 79<|qe) <| cd 79 (rs 83 (qb 2 29<|qt 4 29 0<|qz 5 11<|qe) .ret) <| rt 85 (qr 7 1<|qr 3 5<|q1 (.iad 1 (.l 3) (ci 0))<|qj<|qC 65 (ls [1,5])<|qn<|qv 84<|qe) <| cd 84 (rs 93 (qb 2 29<|qt 4 29 0<|qz 5 9<|qe) .ret) .skip)) <| r2 94 (qr 3 3<|qr 3 5<|qc 69<|qf 6 5<|qs 6 1 5 1<|qf 6 19<|qs 6 1 7 4<|qe)) <| rs 0 (qz 8 0<|qe) <| sq (rs 101 (qf 3 0<|q3 (.load (.v 3) none (.l 0))<|qe) <| bk 2 (rs 104 (q1 (.bin .eql (.g 102) (ci 1))<|qv 103<|qe) <| cd 103 (rs 106 (qr 2 0<|qr 3 1<|qr 3 3<|qr 2 2<|qC 159 (ls [1,3,5,7])<|q2 105 (.mov (.l 8))<|qx 0<|qy 1<|qv 8<|qe) <| r1 117 (qr 3 3<|qf 6 6<|qs 6 1 2 1<|qe)) <| rs 121 (q1 (.bin .eql (.g 102) (ci 2))<|qv 120<|qe) <| cd 120 (rs 123 (qr 2 0<|qr 3 1<|qr 3 4<|qr 2 2<|qr 2 2<|qC 156 (ls [1,3,5,7,9])<|q2 122 (.mov (.l 10))<|qx 0<|qy 1<|qv 8<|qe) <| r2 136 (qr 3 4<|qr 2 2<|qf 6 8<|qs 6 1 4 1<|qf 6 4<|qs 6 1 6 3<|qe)) <| rs 143 (q1 (.bin .eql (.g 102) (ci 3))<|qv 142<|qe) <| cd 142 (rs 145 (qr 2 0<|qr 3 1<|qr 3 2<|qr 2 2<|qC 157 (ls [1,3,5,7])<|q2 144 (.mov (.l 8))<|qx 0<|qy 1<|qv 8<|qe) <| r1 156 (qr 3 2<|qf 6 4<|qs 6 1 2 1<|qe)) .skip)) <| i1 159 (qm 8<|qK .neq 0<|qe) 160 (rs 161 (qb 2 29<|qm 8<|qt 4 29 0<|qw 5<|qe) .ret) <| rs 164 (qr 2 0<|qr 3 1<|qC 148 (ls [1,3])<|q2 163 (.mov (.l 4))<|qx 0<|qy 1<|qG 9 z_0<|qs 9 5 8 6<|qD 10<|q1 (.mov (.l 7))<|qe) <| r2 171 (qr 3 1<|qr 9 3<|qr 9 4<|qf 6 3<|qs 6 1 6 1<|qf 6 5<|qs 6 1 8 3<|qf 6 7<|qs 6 1 10 5<|qe)) <| rs 180 (qb 6 20<|qf 2 8<|qs 2 20 1 0<|qe) <| rs 182 (qr 2 2<|qk .add 1<|qf 2 2<|qs 2 1 3 2<|qe) <| rs 186 (qb 2 29<|qt 4 29 0<|qz 5 0<|qe) .ret
def F331 : F := mF 2 [.cell 4 (some 29),.t 5] none c331
attribute [go_sem] c331 F331
def l332_0 : C := .loop [] [] [] [] (lq 33 (qm 5<|qr 2 1<|qh false<|qQ .lss 0<|qe) 37 0 <| sq (bk 1 (rt 40 (qr 2 1<|qm 5<|qi 3<|qg 0<|qj<|qr 3 1<|qm 5<|qi 3<|qg 0<|qj<|qq .neq 5<|yo<|qr 2 1<|qm 5<|qi 3<|qg 2<|qj<|qr 3 1<|qm 5<|qi 3<|qg 2<|qj<|q1 (.eqb true (.l 19) (.l 25))<|zo 13<|yo<|qr 2 1<|qm 5<|qi 3<|qg 1<|qj<|qr 3 1<|qm 5<|qi 3<|qg 1<|qj<|qC 353 (ls [34,40])<|qn<|zO 28<|qe) <| cd 83 (rs 0 (qF 4<|qe) .ret) .skip)) <| r1 38 (qm 5<|qk .add 1<|qv 5<|qe))
def l332_1 : C := .loop [] [] [] [] (lq 84 (qm 6<|qr 2 4<|qh false<|qQ .lss 0<|qe) 88 2 <| sq (bk 3 (rt 91 (qr 2 4<|qm 6<|qi 3<|qJ 3<|qr 3 4<|qm 6<|qi 3<|qJ 3<|q3 (.eqa true [.i,.i,.i] (.l 4) (.l 9))<|qe) <| cd 101 (rs 0 (qF 4<|qe) .ret) .skip)) <| r1 89 (qm 6<|qk .add 1<|qv 6<|qe))
def l332_2 : C := .loop [] [] [] [] (lq 102 (qm 7<|qr 2 28<|qh false<|qQ .lss 0<|qe) 106 4 <| sq (bk 5 (rt 109 (qr 2 28<|qm 7<|qi 7<|qJ 7<|qr 3 28<|qm 7<|qi 7<|qJ 7<|q3 (.eqa true [.i,.i,.i,.i,.i,.i,.i] (.l 4) (.l 9))<|qe) <| cd 119 (rs 0 (qF 4<|qe) .ret) .skip)) <| r1 107 (qm 7<|qk .add 1<|qv 7<|qe))
def c332 : C := rs 0 (qB 2 0<|qB 3 1<|qF 4<|qe) <| i1 8 (qr 2 1<|qh false<|qr 3 1<|qh false<|qq .neq 2<|yo<|qr 2 4<|qh false<|qr 3 4<|qh false<|qq .neq 10<|zo 7<|yo<|qr 2 28<|qh false<|qr 3 28<|qh false<|qq .neq 19<|zO 16<|qe) 32 (rs 0 (qF 4<|qe) .ret) <| sq (rs 0 (qz 5 0<|qe) <| bk 0 l332_0) <| sq (rs 0 (qz 6 0<|qe) <| bk 2 l332_1) <| sq (rs 0 (qz 7 0<|qe) <| bk 4 l332_2) <| rs 120 (qr 2 0<|qr 3 0<|qC 153 (ls [1,3])<|ya<|qr 2 2<|qr 3 2<|qq .eql 7<|za 5<|ya<|qr 2 3<|qr 3 3<|qC 116 (ls [14,16])<|za 12<|ya<|qR 2 5 3<|qR 3 5 3<|q1 (.eqa false [.i,.i,.i] (.l 21) (.l 23))<|za 19<|ya<|qR 2 8 20<|qR 3 8 20<|qC 354 (ls [28,30])<|za 26<|qv 4<|qe) .ret
def F332 : F := mF 2 [.t 4] none c332
attribute [go_sem] c332 F332
def l335_0 : C := .loop [] [] [] [] (lq 35 (qm 7<|qK .leq 3<|qe) 36 0 <| sq (bk 1 (rt 39 (qm 4<|qb 1 29<|qm 7<|qd 357<|qm 7<|qb 5 3<|q1 (.build z_17 [(0,1,.c (.int .i64 30)),(2,1,.l 3),(7,1,.l 4),(9,3,.l 5)])<|q1 (.mks 36 1 z_17 [(0,.l 6)])<|q1 (.app 19 36 (.l 0) (.l 7))<|qv 4<|qe) <| rs 48 (qR 1 5 3<|q1 (.build z_3 [])<|q3 (.eqa true [.i,.i,.i] (.l 1) (.l 2))<|qe) <| cd 51 (r2 52 (qm 4<|qb 1 29<|qm 7<|qd 357<|qm 7<|qR 1 5 3<|q1 (.build z_17 [(0,1,.c (.int .i64 32)),(2,1,.l 3),(7,1,.l 4),(9,3,.l 6)])<|q1 (.mks 36 1 z_17 [(0,.l 7)])<|q1 (.app 19 36 (.l 0) (.l 8))<|qv 4<|qe)) .skip)) <| r1 37 (qm 7<|qk .add 1<|qv 7<|qe))
def l335_1 : C := .loop [] [] [9] [] (rs 66 (q3 (.bin .lss (.g 65) (.g 64))<|qe) <| sq (cd 66 .skip <| .exit 2) <| sq (bk 3 (rs 67 (qm 65<|q1 (.iad 3 (.g 63) (.g 65))<|qJ 3<|qG 9 z_12<|qV 8 0<|qs 9 3 3 2<|qe) <| rs 70 (qr 9 2<|qN<|qe) <| cd 72 (r2 73 (qm 4<|qr 9 1<|q1 (.iad 1 (.l 2) (ci 0))<|qj<|qm 8<|qk .add 1<|qr 9 0<|qr 9 1<|qc 69<|q1 (.build z_17 [(0,1,.c (.int .i64 33)),(2,1,.l 4),(7,1,.l 6),(4,1,.l 8),(35,1,.l 11)])<|q1 (.mks 36 1 z_17 [(0,.l 12)])<|q1 (.app 19 36 (.l 0) (.l 13))<|qv 4<|qe)) .skip)) <| r1 88 (q1 (.bin .add (.g 65) (ci 1))<|qv 65<|qe))
def c335 : C := rs 0 (qB 1 0<|qG 2 z_13<|qS 3 36<|qe) <| i1 10 (qb 1 29<|qc 328<|qN<|qe) 12 (rs 13 (qb 1 29<|qt 2 29 0<|qS 3 36<|qe) .ret) <| rs 14 (qr 1 3<|qc 112<|qf 1 3<|qs 1 1 3 2<|qe) <| rs 18 (qb 1 29<|q1 (.call (.k 355) .no (some 0) [.l 0])<|qv 4<|qe) <| i1 20 (qf 1 8<|qg 0<|ql 1<|qK .eql 0<|qe) 23 (rs 25 (qr 1 3<|qc 113<|q2 24 (.mov (.l 2))<|qx 0<|qy 1<|qG 5 z_3<|qs 5 3 6 4<|qV 6 5<|qe) <| i1 30 (qm 6<|qN<|qe) 31 (r1 32 (qr 1 4<|qC 356 [.l 1,.f 15]<|qt 5 3 2<|qe)) <| rs 0 (qz 7 1<|qe) <| bk 0 l335_0) <| sq (rs 62 (qf 1 1<|q3 (.load (.v 1) none (.l 0))<|qH false<|q3 (.mov (ci 0))<|qe) <| bk 2 l335_1) <| rs 89 (qb 1 29<|qm 4<|qt 2 29 0<|qw 3<|qe) .ret
def F335 : F := mF 1 [.cell 2 (some 29),.t 3] none c335
attribute [go_sem] c335 F335
def l340_0 : C := .loop [] [] [] [] (lq 73 (qm 8<|qK .leq 3<|qe) 74 1 <| sq (bk 2 (r2 77 (qr 7 35<|qb 2 29<|qm 8<|q1 (.call (.k 357) .borrow none [.l 2,.l 3])<|q1 (.mks 1 1 [.int .i64 0] [(0,.l 4)])<|q1 (.app 83 1 (.l 1) (.l 5))<|qf 7 35<|qs 7 1 7 6<|qe))) <| r1 75 (qm 8<|qk .add 1<|qv 8<|qe))
def c340 : C := rs 0 (qB 2 0<|qB 3 1<|qG 4 z_13<|qS 5 36<|qe) <| i1 13 (qb 2 29<|q1 (.call (.k 328) .borrow none [.l 0])<|qn<|yo<|qb 3 36<|q1 (.call (.k 341) .borrow none [.l 4])<|qn<|zo 3<|yo<|qr 3 2<|qk .neq 0<|zO 8<|qe) 25 (rs 26 (qb 2 29<|qt 4 29 0<|q4 5 (.mko 36)<|qe) .ret) <| rs 27 (qr 3 7<|qk .geq 1<|ya<|qr 3 7<|qk .leq 3<|za 3<|qv 6<|qe) <| sq (rs 35 (qf 3 0<|q3 (.load (.v 3) none (.l 0))<|qe) <| bk 0 (rs 66 (q1 (.bin .eql (.g 36) (ci 3))<|qv 65<|qe) <| cd 65 (rt 67 (qr 3 1<|qr 2 0<|q1 (.call (.k 179) .freeze none [.l 3])<|q1 (.build [.int .i64 0,.int .i64 0,.int .i64 0,.int .i64 0,.int .i64 0,.int .i64 0,.int .i64 0,.int .i64 0,.int .i64 0,.int .i64 0,.int .i64 0,.int .i64 0,.str [],.int .i64 0,.int .i64 0,.int .i64 0,.str [],.str [],.bool false,.str [],.int .i64 0,.int .i64 0,.int .i64 0,.str [],.int .i64 0,.int .i64 0,.int .i64 0,.int .i64 0,.int .i64 0,.bool false,.str [],.slice 2 [],.str [],.bool false,.slice 5 [],.nslice 1] [(0,1,.c (.int .i64 4)),(2,1,.l 1),(34,1,.l 4)])<|qG 7 z_18<|qs 7 36 6 5<|qe) <| sq (rs 0 (qz 8 1<|qe) <| bk 1 l340_0) <| rt 85 (qb 2 29<|q1 (.ldf 83 7 36 (.g 7))<|q1 (.mkb 36 1 z_17 [(0,.l 1)])<|qt 4 29 0<|qw 5<|qe) .ret) <| rs 89 (q1 (.bin .eql (.g 36) (ci 7))<|qv 88<|qe) <| cd 88 (rs 91 (qr 2 3<|qr 3 6<|q1 (.call (.k 121) .freeze none [.l 1,.l 3])<|q2 90 (.mov (.l 4))<|qx 0<|qy 1<|qw 9<|qw 10<|qe) <| rs 98 (qm 10<|qK .eql 0<|qe) <| cd 99 (r1 100 (qm 9<|qf 2 3<|qs 2 1 1 0<|qe)) .skip) <| rs 103 (q1 (.bin .eql (.g 36) (ci 31))<|qv 102<|qe) <| cd 102 (rs 104 (q3 (.mov (.g 6))<|qe) <| cd 104 (rs 105 (qb 2 29<|qb 3 36<|q1 (.call (.k 361) .freeze none [.l 0,.l 1])<|qt 4 29 2<|q4 5 (.mko 36)<|qe) .ret) .skip) <| rs 109 (q1 (.bin .eql (.g 36) (ci 34))<|qv 108<|qe) <| cd 108 (rs 110 (q3 (.mov (.g 6))<|qe) <| cd 110 (rs 111 (qb 2 29<|qb 3 36<|q1 (.call (.k 362) .freeze none [.l 0,.l 1])<|qt 4 29 2<|q4 5 (.mko 36)<|qe) .ret) .skip) <| rs 115 (q1 (.bin .eql (.g 36) (ci 5))<|qv 114<|qe) <| cd 114 (rs 116 (qb 2 29<|qb 3 36<|q1 (.call (.k 363) .freeze (some 1) [.l 0,.l 1])<|qx 0<|qy 1<|qt 4 29 3<|qw 5<|qe) .ret) <| sq (rs 122 (q1 (.bin .eql (.g 36) (ci 9))<|qv 121<|qe) <| cd 121 .skip <| r1 123 (q1 (.bin .eql (.g 36) (ci 11))<|qv 121<|qe)) <| cd 121 (rs 124 (qf 2 8<|qg 0<|ql 2<|qk .eql 4<|ya<|qf 2 8<|qg 2<|ql 2<|qr 3 6<|qq .eql 7<|zA 4<|qe) <| cd 135 (rs 136 (qb 2 29<|qb 3 36<|q1 (.call (.k 364) .freeze (some 1) [.l 0,.l 1])<|qx 0<|qy 1<|qt 4 29 3<|qw 5<|qe) .ret) .skip) <| rs 37 (qf 2 8<|qg 0<|ql 2<|qk .geq 1<|ya<|qf 2 8<|qg 0<|ql 2<|qk .leq 3<|za 4<|ya<|qf 2 8<|qg 2<|ql 2<|qr 3 5<|qq .eql 13<|zA 10<|qe) <| cd 54 (rs 56 (qb 2 29<|qb 3 36<|q1 (.call (.k 365) .freeze none [.l 0,.l 1])<|q2 55 (.mov (.l 2))<|qx 0<|qy 1<|qG 11 z_13<|qs 11 29 6 4<|qV 12 5<|qe) <| rs 61 (q3 (.mov (.g 12))<|qe) <| cd 61 (rt 62 (qb 11 29<|qb 11 29<|q1 (.call (.k 355) .freeze (some 0) [.l 1])<|qt 4 29 0<|qw 5<|qe) .ret) .skip) .skip)) <| rs 141 (qb 2 29<|qt 4 29 0<|q4 5 (.mko 36)<|qe) .ret
def F340 : F := mF 2 [.cell 4 (some 29),.t 5] (some 1) c340
attribute [go_sem] c340 F340
def c341 : C := rs 0 (qB 1 0<|qF 2<|qe) <| i1 3 (qr 1 0<|qk .lss 1<|yo<|qr 1 0<|qk .gtr 37<|zo 3<|yo<|qf 1 25<|qg 0<|ql 1<|qk .lss 0<|zo 8<|yo<|qf 1 25<|qg 0<|ql 1<|qk .gtr 16<|zo 14<|yo<|qf 1 25<|qg 6<|ql 1<|qh false<|qk .gtr 8<|zo 20<|yo<|qr 1 34<|qh false<|qk .gtr 8<|zo 27<|yo<|qr 1 35<|qh false<|qk .gtr 8<|zO 33<|qe) 41 (rs 0 (qF 2<|qe) .ret) <| i1 42 (qb 1 36<|qc 366<|q3 (.call (.k 67) .no none [.l 1,.f 367])<|qe) 44 (rs 0 (qF 2<|qe) .ret) <| rs 45 (qR 1 9 3<|qc 28<|ya<|qf 1 13<|qg 7<|q1 (.load (.v 1) (some 3) (.l 5))<|qc 28<|za 3<|ya<|qf 1 25<|qg 1<|q1 (.load (.v 1) (some 3) (.l 11))<|qc 28<|za 9<|qv 2<|qe) .ret
def F341 : F := mF 1 [.t 2] none c341
attribute [go_sem] c341 F341
def c345 : C := rs 0 (qS 2 1<|qe) <| i1 3 (qm 0<|qc 368<|qN<|qe) 5 (rs 0 (qS 2 1<|qe) .ret) <| rs 6 (qm 0<|qm 0<|qk .rem 3<|qk .add 1<|q1 (.mks 1 2 [.int .i64 0] [(0,.l 0),(1,.l 3)])<|qv 2<|qe) .ret
def F345 : F := mF 1 [.t 2] none c345
attribute [go_sem] c345 F345
def c346 : C := rs 0 (qB 1 0<|qF 2<|qe) <| i1 3 (qr 1 0<|qk .lss 0<|yo<|qr 1 0<|qk .gtr 5<|zo 3<|yo<|qr 1 1<|qk .lss 0<|zo 8<|yo<|qr 1 1<|qk .gtr 7<|zo 13<|yo<|qr 1 2<|qr 1 3<|qr 1 4<|qr 1 7<|qr 1 10<|qr 1 11<|qr 1 12<|q1 (.mks 1 7 [.int .i64 0] [(0,.l 20),(1,.l 22),(2,.l 24),(3,.l 26),(4,.l 28),(5,.l 30),(6,.l 32)])<|qC 347 [ci 0,.l 33]<|qn<|zo 18<|yo<|qr 1 15<|qC 347 [ci 0,.l 39]<|qn<|zo 37<|yo<|qR 1 16 3<|qc 28<|qn<|zO 43<|qe) 51 (rs 0 (qF 2<|qe) .ret) <| i1 52 (qr 1 5<|qk .lss 0<|yo<|qr 1 5<|qk .gtr 3<|zo 3<|yo<|qr 1 6<|qk .lss 0<|zo 8<|yo<|qr 1 6<|qk .gtr 3<|zo 13<|yo<|qr 1 19<|qh false<|qk .gtr 0<|ya<|qr 1 19<|qc 348<|qn<|y0 18<|qa 23<|zO 18<|qe) 81 (rs 0 (qF 2<|qe) .ret) <| sq (rs 82 (qf 1 0<|q3 (.load (.v 1) none (.l 0))<|qe) <| bk 0 (rs 85 (q1 (.bin .eql (.g 83) (ci 5))<|qv 84<|qe) <| cd 84 (rs 86 (qr 1 5<|qk .gtr 0<|ya<|qr 1 19<|qh false<|qk .gtr 0<|za 3<|qv 2<|qe) .ret) <| rs 96 (q1 (.bin .eql (.g 83) (ci 1))<|qv 95<|qe) <| cd 95 (rs 97 (qr 1 5<|qk .gtr 0<|ya<|qr 1 6<|qk .gtr 0<|za 3<|qv 2<|qe) .ret) <| sq (rs 106 (q1 (.bin .eql (.g 83) (ci 2))<|qv 105<|qe) <| cd 105 .skip <| r1 107 (q1 (.bin .eql (.g 83) (ci 3))<|qv 105<|qe)) <| cd 105 (rs 108 (qr 1 5<|qk .gtr 0<|qv 2<|qe) .ret) .skip)) <| rs 0 (qT 2<|qe) .ret
def F346 : F := mF 1 [.t 2] none c346
attribute [go_sem] c346 F346
def c347 : C := rs 0 (qB 2 0<|qF 4<|qe) <| rs 5 (qm 1<|q1 (.fn 369 [.g 2] [2])<|qd 67<|qn<|qv 4<|qe) .ret
def F347 : F := mF 2 [.t 4] none c347
attribute [go_sem] c347 F347
def l348_0 : C := .loop [] [] [] [] (rs 8 (q3 (.bin .lss (.g 7) (.g 6))<|qe) <| sq (cd 8 .skip <| .exit 0) <| sq (bk 1 (rs 9 (qm 7<|q1 (.iad 1 (.g 5) (.g 7))<|qj<|qV 3 0<|qw 4<|qe) <| rs 12 (qm 4<|qk .lss 1<|yo<|qm 4<|qk .gtr 3<|zo 2<|yo<|qm 0<|qm 3<|q1 (.sl false 1 (.l 7) none (some (.l 8)))<|qm 4<|qd 65<|zO 6<|qe) <| cd 24 (rs 0 (qF 2<|qe) .ret) .skip)) <| r1 25 (q1 (.bin .add (.g 7) (ci 1))<|qv 7<|qe))
def c348 : C := rs 0 (qF 2<|qe) <| sq (rs 5 (q3 (.mov (.g 0))<|qH false<|q3 (.mov (ci 0))<|qe) <| bk 0 l348_0) <| rs 26 (qm 0<|qh false<|qk .gtr 0<|qv 2<|qe) .ret
def F348 : F := mF 1 [.t 2] none c348
attribute [go_sem] c348 F348
def c352 : C := rs 0 (qB 1 0<|qG 2 z_13<|qz 3 0<|qe) <| sq (rs 5 (qR 1 8 20<|qG 4 z_16<|qs 4 20 2 1<|qe) <| bk 0 (rs 9 (qr 4 0<|qk .eql 1<|ya<|qr 4 1<|qk .leq 3<|za 3<|qv 8<|qe) <| cd 8 (r1 17 (qf 1 8<|qg 1<|qu 1 1 6<|qe)) <| rs 20 (qr 4 0<|qk .eql 2<|yo<|qr 4 0<|qk .eql 3<|zo 3<|ya<|qr 4 1<|qk .eql 1<|za 8<|qv 19<|qe) <| cd 19 (r1 33 (qf 1 8<|qg 1<|qu 1 1 7<|qe)) <| rs 7 (qb 1 29<|qt 2 29 0<|qz 3 7<|qe) .ret)) <| rs 35 (qb 1 29<|qt 2 29 0<|qz 3 0<|qe) .ret
def F352 : F := mF 1 [.cell 2 (some 29),.t 3] none c352
attribute [go_sem] c352 F352
def l353_0 : C := .loop [] [] [] [] (lq 11 (qm 5<|qm 0<|qh false<|qQ .lss 0<|qe) 14 0 <| sq (bk 1 (rt 17 (qm 0<|qm 5<|qi 1<|qj<|qm 1<|qm 5<|qi 1<|qj<|qQ .neq 3<|qe) <| cd 25 (rs 0 (qF 4<|qe) .ret) .skip)) <| r1 15 (qm 5<|qk .add 1<|qv 5<|qe))
def c353 : C := rs 0 (qF 4<|qe) <| i1 6 (qm 0<|qh false<|qm 1<|qh false<|qQ .neq 1<|qe) 10 (rs 0 (qF 4<|qe) .ret) <| sq (rs 0 (qz 5 0<|qe) <| bk 0 l353_0) <| rs 0 (qT 4<|qe) .ret
def F353 : F := mF 2 [.t 4] none c353
attribute [go_sem] c353 F353
def l354_0 : C := .loop [] [] [] [] (lq 13 (qm 5<|qr 2 9<|qh false<|qQ .lss 0<|qe) 17 0 <| sq (bk 1 (rt 20 (qr 2 9<|qm 5<|qi 1<|qj<|qr 3 9<|qm 5<|qi 1<|qj<|qQ .neq 4<|qe) <| cd 30 (rs 0 (qF 4<|qe) .ret) .skip)) <| r1 18 (qm 5<|qk .add 1<|qv 5<|qe))
def c354 : C := rs 0 (qB 2 0<|qB 3 1<|qF 4<|qe) <| i1 6 (qr 2 9<|qh false<|qr 3 9<|qh false<|qQ .neq 2<|qe) 12 (rs 0 (qF 4<|qe) .ret) <| sq (rs 0 (qz 5 0<|qe) <| bk 0 l354_0) <| rs 31 (qr 2 0<|qr 3 0<|qq .eql 1<|ya<|qr 2 1<|qr 3 1<|qq .eql 7<|za 5<|ya<|qr 2 2<|qr 3 2<|qq .eql 14<|za 12<|ya<|qr 2 3<|qr 3 3<|qq .eql 21<|za 19<|ya<|qr 2 4<|qr 3 4<|qq .eql 28<|za 26<|ya<|qr 2 5<|qr 3 5<|qq .eql 35<|za 33<|ya<|qr 2 6<|qr 3 6<|qq .eql 42<|za 40<|ya<|qr 2 7<|qr 3 7<|qq .eql 49<|za 47<|ya<|qr 2 8<|qr 3 8<|qq .eql 56<|za 54<|ya<|qr 2 10<|qr 3 10<|qq .eql 63<|za 61<|ya<|qr 2 11<|qr 3 11<|qq .eql 70<|za 68<|ya<|qr 2 12<|qr 3 12<|qq .eql 77<|za 75<|ya<|qR 2 13 2<|qR 3 13 2<|q1 (.eqa false [.s,.s] (.l 84) (.l 86))<|za 82<|ya<|qr 2 15<|qr 3 15<|qC 353 (ls [91,93])<|za 89<|ya<|qR 2 16 3<|qR 3 16 3<|q1 (.eqa false [.i,.i,.i] (.l 98) (.l 100))<|za 96<|ya<|qr 2 19<|qr 3 19<|qC 353 (ls [105,107])<|za 103<|qv 4<|qe) .ret
def F354 : F := mF 2 [.t 4] none c354
attribute [go_sem] c354 F354
def c355 : C := rs 0 (qB 1 0<|qS 2 36<|qe) <| rs 4 (qR 1 8 20<|qG 3 z_16<|qs 3 20 2 1<|qe) <| sq (rs 6 (qf 3 0<|q3 (.load (.v 3) none (.l 0))<|qe) <| bk 0 (rs 9 (q1 (.bin .eql (.g 7) (ci 4))<|qv 8<|qe) <| cd 8 (rs 10 (qb 1 29<|q1 (.call (.k 370) .no (some 0) [.l 0])<|qv 2<|qe) .ret) <| rs 13 (q1 (.bin .eql (.g 7) (ci 5))<|qv 12<|qe) <| cd 12 (i1 14 (qr 3 1<|qK .neq 1<|qe) 16 (rs 2 (q3 (.mko 36)<|qe) .ret) <| rt 17 (qr 3 19<|q1 (.iad 1 (.l 1) (ci 0))<|qj<|qr 3 5<|qr 1 1<|qr 3 5<|qk .sub 1<|q1 (.iad 3 (.l 7) (.l 10))<|qg 0<|qj<|qk .add 1<|qr 3 19<|qc 69<|q1 (.build z_17 [(0,1,.c (.int .i64 33)),(2,1,.l 3),(7,1,.l 5),(4,1,.l 14),(35,1,.l 17)])<|q1 (.mkb 36 1 z_17 [(0,.l 18)])<|qv 2<|qe) .ret) <| sq (rs 38 (q1 (.bin .eql (.g 7) (ci 1))<|qv 37<|qe) <| cd 37 .skip <| rs 39 (q1 (.bin .eql (.g 7) (ci 2))<|qv 37<|qe) <| cd 37 .skip <| r1 40 (q1 (.bin .eql (.g 7) (ci 3))<|qv 37<|qe)) <| cd 37 (rs 41 (qb 1 29<|q1 (.call (.k 371) .no (some 0) [.l 0])<|qv 2<|qe) .ret) .skip)) <| rs 2 (q3 (.mko 36)<|qe) .ret
def F355 : F := mF 1 [.t 2] (some 0) c355
attribute [go_sem] c355 F355
def l356_0 : C := .loop [] [] [] [] (lq 14 (qm 6<|qm 0<|qh false<|qQ .lss 0<|qe) 17 0 <| sq (bk 1 (rt 20 (qm 1<|qm 0<|qm 6<|qi 3<|qJ 3<|qb 5 3<|q1 (.call (.v (.l 0)) .no none [.l 4,.l 5])<|qK .gtr 0<|qe) <| cd 27 (r1 28 (qm 0<|qm 6<|qi 3<|qJ 3<|qt 5 3 3<|qe)) .skip)) <| r1 18 (qm 6<|qk .add 1<|qv 6<|qe))
def c356 : C := rs 0 (qG 4 z_3<|qe) <| i1 7 (qm 0<|qh false<|qK .lss 1<|qe) 9 (r1 10 (q1 (.bad)<|q5 (.bad)<|qe)) <| rs 11 (qm 0<|q1 (.iad 3 (.l 0) (ci 0))<|qJ 3<|qG 5 z_3<|qs 5 3 3 2<|qe) <| sq (rs 0 (qz 6 1<|qe) <| bk 0 l356_0) <| rs 32 (qb 5 3<|qt 4 3 0<|qe) .ret
def F356 : F := mF 2 [.cell 4 (some 3)] none c356
attribute [go_sem] c356 F356
def c357 : C := rs 0 (qB 2 0<|qz 4 0<|qe) <| rs 5 (qr 2 1<|qm 1<|qk .sub 1<|q1 (.iad 3 (.l 1) (.l 3))<|qg 1<|qj<|q1 (.iad 1 (.l 6) (ci 0))<|qj<|qv 4<|qe) .ret
def F357 : F := mF 2 [.t 4] none c357
attribute [go_sem] c357 F357
def l360_0 : C := .loop [] [] [] [] (lq 11 (qm 5<|qm 0<|qh false<|qQ .lss 0<|qe) 14 0 <| sq (bk 1 (rt 17 (qm 0<|qm 5<|qi 36<|qJ 36<|qm 1<|qm 5<|qi 36<|qJ 36<|qC 372 (ls [3,7])<|qN<|qe) <| cd 26 (rs 0 (qF 4<|qe) .ret) .skip)) <| r1 15 (qm 5<|qk .add 1<|qv 5<|qe))
def c360 : C := rs 0 (qF 4<|qe) <| i1 6 (qm 0<|qh false<|qm 1<|qh false<|qQ .neq 1<|qe) 10 (rs 0 (qF 4<|qe) .ret) <| sq (rs 0 (qz 5 0<|qe) <| bk 0 l360_0) <| rs 0 (qT 4<|qe) .ret
def F360 : F := mF 2 [.t 4] none c360
attribute [go_sem] c360 F360
def c361 : C := rs 0 (qB 2 0<|qB 3 1<|qG 4 z_13<|qe) <| rs 5 (qr 2 4<|q1 (.call (.k 373) .freeze (some 0) [.l 1])<|qf 2 4<|qs 2 1 3 2<|qe) <| rt 9 (qr 2 4<|qr 3 7<|qk .sub 1<|qr 2 4<|qr 3 7<|qk .sub 1<|q1 (.iad 3 (.l 6) (.l 9))<|q1 (.load (.e 7) (some 3) (.l 10))<|qR 3 9 3<|q1 (.call (.k 21) .freeze none [.l 11,.l 13])<|q1 (.iad 3 (.l 1) (.l 4))<|q5 (.store (.e 7) 3 (.l 15) (.l 14))<|qe) <| i1 25 (qf 2 8<|qg 0<|ql 2<|qK .eql 0<|qe) 28 (r1 29 (qR 2 5 3<|qr 2 4<|qr 2 3<|q1 (.call (.k 109) .freeze none [.l 1,.l 3,.l 5])<|qf 2 5<|qs 2 3 7 6<|qe)) <| rs 37 (qb 2 29<|qt 4 29 0<|qe) .ret
def F361 : F := mF 2 [.cell 4 (some 29)] none c361
attribute [go_sem] c361 F361
def c362 : C := rs 0 (qB 2 0<|qB 3 1<|qG 4 z_13<|qe) <| rs 6 (qr 2 1<|qr 3 7<|qk .sub 1<|q1 (.iad 3 (.l 1) (.l 4))<|qJ 3<|qG 5 z_12<|qs 5 3 7 6<|qe) <| sq (bk 0 (rs 15 (qf 2 8<|qg 0<|ql 2<|qk .eql 5<|ya<|qf 2 8<|qg 5<|ql 2<|qr 3 7<|qq .eql 7<|za 4<|ya<|qr 3 4<|qr 5 0<|qk .add 1<|qq .eql 14<|za 12<|qv 14<|qe) <| cd 14 (rs 35 (qr 3 4<|qf 2 8<|qg 19<|ql 2<|qr 3 8<|qk .eql 1<|q1 (.build z_12 [(0,1,.l 1),(1,1,.l 4),(2,1,.l 7)])<|qt 5 3 8<|qe) <| r1 44 (q1 (.build z_16 [])<|qf 2 8<|qs 2 20 1 0<|qe)) <| rs 47 (qr 3 4<|qr 5 0<|qq .eql 1<|ya<|qr 3 8<|qk .eql 1<|za 5<|qv 46<|qe) <| cd 46 (r1 57 (qf 5 2<|q5 (.store (.v 5) 1 (.l 0) (cb true))<|qe)) <| rs 13 (qb 2 29<|qt 4 29 0<|qe) .ret)) <| rs 58 (qr 2 1<|q1 (.call (.k 374) .freeze (some 0) [.l 1])<|qf 2 1<|qs 2 1 3 2<|qe) <| rs 62 (qr 2 1<|qr 3 7<|qk .sub 1<|qb 5 3<|q1 (.iad 3 (.l 1) (.l 4))<|q5 (.store (.e 60) 3 (.l 6) (.l 5))<|qe) <| rs 69 (qb 2 29<|qt 4 29 0<|qe) .ret
def F362 : F := mF 2 [.cell 4 (some 29)] none c362
attribute [go_sem] c362 F362
def l363_0 : C := .loop [] [] [8] [54,5] (rs 29 (q3 (.bin .lss (.g 28) (.g 27))<|qe) <| sq (cd 29 .skip <| .exit 0) <| sq (bk 1 (rs 30 (q1 (.iad 7 (.g 26) (.g 28))<|qJ 7<|qG 8 z_15<|qs 8 7 2 1<|qe) <| bk 2 (rs 34 (qr 8 0<|qr 6 0<|qq .neq 1<|yo<|qr 8 1<|qr 6 1<|qq .lss 7<|zo 5<|qv 33<|qe) <| cd 33 .skip <| rs 47 (qr 8 1<|qr 6 1<|qq .eql 1<|qv 46<|qe) <| cd 46 (rt 52 (qb 2 29<|qb 8 7<|q1 (.call (.k 375) .no (some 0) [.l 1])<|qt 4 29 0<|qw 5<|qe) .ret) <| rs 32 (qb 2 29<|qt 4 29 0<|q4 5 (.mko 36)<|qe) .ret))) <| r1 55 (q1 (.bin .add (.g 28) (ci 1))<|qv 28<|qe))
def c363 : C := rs 0 (qB 2 0<|qB 3 1<|qG 4 z_13<|qS 5 36<|qe) <| rs 10 (qr 3 1<|qk .sub 10<|qr 3 7<|q1 (.build z_15 [(0,1,.l 2),(1,1,.l 4)])<|qG 6 z_15<|qs 6 7 6 5<|qe) <| i1 16 (qr 6 0<|qk .lss 1<|yo<|qr 6 0<|qk .gtr 8<|zO 3<|qe) 23 (rs 24 (qb 2 29<|qt 4 29 0<|q4 5 (.mko 36)<|qe) .ret) <| sq (rs 25 (qf 2 28<|q3 (.load (.v 2) none (.l 0))<|qH false<|q3 (.mov (ci 0))<|qe) <| bk 0 l363_0) <| rs 56 (qf 3 13<|qg 3<|ql 3<|qf 3 13<|qg 10<|ql 3<|q1 (.build z_1 [(0,1,.l 2),(1,1,.l 5)])<|qG 9 z_1<|qs 9 2 7 6<|qe) <| sq (bk 3 (rs 64 (qb 9 2<|qc 186<|qn<|qv 63<|qe) <| cd 63 (rs 67 (qf 6 6<|qu 6 0 1<|qe) <| rt 68 (qb 2 29<|qb 6 7<|qd 376<|qb 6 7<|q1 (.call (.k 375) .no (some 0) [.l 3])<|qt 4 29 2<|qw 5<|qe) .ret) <| rs 74 (qf 2 8<|qg 0<|ql 2<|qk .neq 0<|qv 73<|qe) <| cd 73 (rs 78 (qb 2 29<|qt 4 29 0<|q4 5 (.mko 36)<|qe) .ret) <| rs 80 (qr 2 2<|qk .eql 1099511627776<|yo<|qr 2 3<|qh false<|qk .eql 4<|zo 3<|qv 79<|qe) <| cd 79 (rs 89 (qf 6 6<|qu 6 0 6<|qe) <| rt 90 (qb 2 29<|qb 6 7<|qd 376<|qb 6 7<|q1 (.call (.k 375) .no (some 0) [.l 3])<|qt 4 29 2<|qw 5<|qe) .ret) .skip)) <| rt 95 (qr 2 2<|qr 6 0<|qr 6 1<|qb 9 2<|qb 2 29<|qb 9 2<|qd 377<|q1 (.build z_16 [(0,1,.c (.int .i64 4)),(1,1,.c (.int .i64 1)),(2,1,.l 1),(11,1,.l 3),(12,1,.l 5),(13,2,.l 6),(15,1,.l 9)])<|qf 2 8<|qs 2 20 11 10<|qe) <| rs 107 (qr 2 2<|qk .add 1<|qf 2 2<|qs 2 1 3 2<|qe) <| rt 111 (qb 2 29<|qb 2 29<|q1 (.call (.k 355) .no (some 0) [.l 1])<|qt 4 29 0<|qw 5<|qe) .ret
def F363 : F := mF 2 [.cell 4 (some 29),.t 5] (some 1) c363
attribute [go_sem] c363 F363
def c364 : C := rs 0 (qB 2 0<|qB 3 1<|qG 4 z_13<|qS 5 36<|qe) <| rs 8 (qR 2 8 20<|qG 6 z_16<|qs 6 20 2 1<|qe) <| rs 10 (qr 6 15<|qr 3 3<|q1 (.call (.k 75) .borrow none [.l 1,.l 3])<|qv 7<|qe) <| i1 15 (qm 7<|qk .lss 0<|yo<|qr 3 0<|qk .eql 9<|ya<|qr 6 1<|qk .neq 1<|y0 2<|qa 6<|zo 2<|yo<|qr 3 0<|qk .eql 11<|ya<|qr 6 1<|qk .neq 2<|y0 12<|qa 16<|zO 12<|qe) 36 (rs 37 (qb 2 29<|qt 4 29 0<|q4 5 (.mko 36)<|qe) .ret) <| rs 38 (qr 6 15<|q1 (.call (.k 69) .freeze (some 0) [.l 1])<|qm 7<|qm 7<|qk .add 1<|q1 (.del 378 40 1 (.l 2) (.l 3) (.l 5))<|qf 6 15<|qs 6 1 7 6<|qe) <| i1 46 (qr 6 1<|qK .eql 1<|qe) 48 (r1 49 (qR 6 16 3<|qR 3 9 3<|q1 (.call (.k 21) .freeze none [.l 1,.l 3])<|qf 6 16<|qs 6 3 5 4<|qe)) <| sq (bk 0 (rs 60 (qr 6 15<|qh false<|qk .gtr 0<|qv 59<|qe) <| cd 59 .skip <| rs 65 (qr 6 1<|qk .eql 1<|qv 64<|qe) <| cd 64 (r2 68 (qb 2 29<|qR 6 13 2<|q1 (.call (.k 377) .freeze none [.l 0,.l 2])<|qR 6 16 3<|qR 2 5 3<|q1 (.call (.k 21) .freeze none [.l 5,.l 7])<|qf 6 1<|qu 6 9 2<|qf 6 15<|qs 6 1 11 3<|qf 6 16<|qs 6 3 13 8<|qe)) <| rs 55 (qb 2 29<|q1 (.call (.k 379) .freeze (some 1) [.l 0])<|qx 0<|qy 1<|qt 4 29 2<|qw 5<|qe) .ret)) <| rs 80 (qb 6 20<|qf 2 8<|qs 2 20 1 0<|qe) <| rt 82 (qb 2 29<|qb 2 29<|q1 (.call (.k 355) .freeze (some 0) [.l 1])<|qt 4 29 0<|qw 5<|qe) .ret
def F364 : F := mF 2 [.cell 4 (some 29),.t 5] (some 1) c364
attribute [go_sem] c364 F364
def c365 : C := rs 0 (qB 2 0<|qB 3 1<|qG 4 z_13<|qF 5<|qe) <| rs 10 (qR 2 8 20<|qG 6 z_16<|qs 6 20 2 1<|qe) <| rs 12 (qr 6 0<|qk .eql 1<|qv 7<|qe) <| sq (bk 0 (rs 17 (qr 3 0<|qk .eql 13<|ya<|qm 7<|za 3<|ya<|qr 6 1<|qk .eql 1<|za 6<|qv 16<|qe) <| cd 16 (r2 28 (qr 3 8<|qf 2 8<|qg 1<|qu 2 3 2<|qf 2 8<|qg 10<|qs 2 1 6 1<|qe)) <| rs 35 (qr 3 0<|qk .eql 15<|ya<|qm 7<|za 3<|ya<|qr 6 1<|qk .eql 2<|za 6<|ya<|qr 3 8<|qr 6 9<|qh false<|qq .eql 13<|za 11<|ya<|qr 3 4<|qr 6 10<|qq .eql 21<|za 19<|qv 34<|qe) <| cd 34 (rt 61 (qr 6 9<|q1 (.call (.k 380) .freeze (some 0) [.l 1])<|qr 3 12<|q1 (.mks 1 1 [.str []] [(0,.l 4)])<|q1 (.app 63 1 (.l 2) (.l 5))<|qf 2 8<|qg 9<|qs 2 1 8 6<|qe) <| rs 70 (qf 2 8<|qg 9<|ql 2<|qh false<|qr 6 10<|qQ .eql 3<|qe) <| cd 76 (r1 77 (qf 2 8<|qg 1<|qu 2 1 3<|qe)) .skip) <| rs 80 (qr 3 0<|qk .eql 17<|ya<|qm 7<|za 3<|ya<|qr 6 1<|qk .eql 3<|za 6<|qv 79<|qe) <| cd 79 (sq (rs 92 (qr 2 0<|qr 6 3<|qr 6 6<|qr 6 2<|q1 (.call (.k 159) .freeze none [.l 1,.l 3,.l 5,.l 7])<|q2 91 (.mov (.l 8))<|qx 0<|qy 1<|qw 8<|qw 9<|qe) <| rs 103 (qm 9<|qK .eql 0<|qe) <| cd 104 (r1 105 (qm 8<|qf 2 0<|qs 2 1 1 0<|qe)) .skip) <| r1 107 (qf 2 8<|qg 1<|qu 2 1 4<|qe)) <| rs 110 (qr 3 0<|qk .eql 19<|ya<|qm 7<|za 3<|ya<|qr 6 1<|qk .eql 4<|za 6<|qv 109<|qe) <| cd 109 (r1 121 (qf 2 8<|qg 1<|qu 2 1 5<|qe)) <| rs 124 (qr 3 0<|qk .eql 21<|ya<|qm 7<|za 3<|ya<|qr 6 1<|qk .eql 5<|za 6<|qv 123<|qe) <| cd 123 (r1 135 (q1 (.build z_16 [])<|qf 2 8<|qs 2 20 1 0<|qe)) <| rs 138 (qr 3 0<|qk .eql 25<|ya<|qm 7<|za 3<|ya<|qr 6 1<|qk .eql 6<|za 6<|qv 137<|qe) <| cd 137 (r1 149 (qf 2 8<|qg 1<|qu 2 1 7<|qe)) <| rs 152 (qr 3 0<|qk .eql 27<|ya<|qr 6 0<|qk .eql 2<|za 3<|yo<|qr 3 0<|qk .eql 29<|ya<|qr 6 0<|qk .eql 3<|y0 8<|qa 12<|zo 8<|ya<|qr 6 1<|qk .eql 1<|yo<|qr 6 1<|qk .eql 7<|y1 18<|qo 22<|za 18<|qv 151<|qe) <| cd 151 (r1 180 (qb 2 29<|q1 (.call (.k 381) .freeze none [.l 0])<|qt 2 29 1<|qe)) <| rs 183 (qr 3 0<|qk .eql 23<|ya<|qr 6 1<|qk .eql 7<|za 3<|qv 182<|qe) <| cd 182 (i1 191 (qm 7<|qn<|ya<|qr 3 4<|qr 6 2<|qq .eql 4<|zA 2<|qe) 199 (r1 200 (qb 2 29<|q1 (.call (.k 381) .freeze none [.l 0])<|qt 2 29 1<|qe)) <| r1 202 (q1 (.build z_16 [])<|qf 2 8<|qs 2 20 1 0<|qe)) <| rs 15 (qb 2 29<|qt 4 29 0<|qF 5<|qe) .ret)) <| rs 204 (qb 2 29<|qt 4 29 0<|qT 5<|qe) .ret
def F365 : F := mF 2 [.cell 4 (some 29),.t 5] none c365
attribute [go_sem] c365 F365
def l366_0 : C := .loop [] [] [5] [] (rs 41 (q3 (.bin .lss (.g 40) (.g 39))<|qe) <| sq (cd 41 .skip <| .exit 0) <| sq (bk 1 (rs 42 (q1 (.iad 5 (.g 38) (.g 40))<|qJ 5<|qG 5 z_0<|qs 5 5 2 1<|qe) <| r1 44 (qm 3<|qr 5 2<|qr 5 3<|qr 5 4<|q1 (.mks 1 3 [.int .i64 0] [(0,.l 2),(1,.l 4),(2,.l 6)])<|q1 (.app 36 1 (.l 0) (.l 7))<|qv 3<|qe))) <| r1 53 (q1 (.bin .add (.g 40) (ci 1))<|qv 40<|qe))
def c366 : C := rs 0 (qB 1 0<|qS 2 1<|qe) <| rs 6 (qr 1 0<|qr 1 1<|qr 1 2<|qr 1 3<|qr 1 4<|qr 1 5<|qr 1 6<|qr 1 7<|qr 1 8<|qf 1 13<|qg 0<|ql 1<|qf 1 13<|qg 1<|ql 1<|qf 1 13<|qg 2<|ql 1<|qf 1 13<|qg 11<|ql 1<|q1 (.mkb 1 13 [.int .i64 0] [(0,.l 1),(1,.l 3),(2,.l 5),(3,.l 7),(4,.l 9),(5,.l 11),(6,.l 13),(7,.l 15),(8,.l 17),(9,.l 20),(10,.l 23),(11,.l 26),(12,.l 29)])<|qv 3<|qe) <| sq (rs 37 (qf 1 34<|q3 (.load (.v 1) none (.l 0))<|qH false<|q3 (.mov (ci 0))<|qe) <| bk 0 l366_0) <| rs 54 (qm 3<|qr 1 35<|q1 (.app 36 1 (.l 0) (.l 2))<|qv 2<|qe) .ret
def F366 : F := mF 1 [.t 2] none c366
attribute [go_sem] c366 F366
def c367 : C := rs 0 (qF 2<|qe) <| rs 3 (qm 0<|qk .lss 0<|yo<|qm 0<|qk .gtr 1099511627776<|zo 2<|qv 2<|qe) .ret
def F367 : F := mF 1 [.t 2] none c367
attribute [go_sem] c367 F367
def c368 : C := rs 0 (qF 2<|qe) <| rs 3 (qm 0<|qk .geq 1<|ya<|qm 0<|qk .leq 3<|za 2<|qv 2<|qe) .ret
def F368 : F := mF 1 [.t 2] none c368
attribute [go_sem] c368 F368
def c369 : C := rs 0 (qF 3<|qe) <| rs 4 (qm 0<|q1 (.load (.c) none (.g 1))<|qq .lss 0<|yo<|qm 0<|qk .gtr 1099511627776<|zo 3<|qv 3<|qe) .ret
def F369 : F := mF 2 [.t 3] none c369
attribute [go_sem] c369 F369
def l370_0 : C := .loop [] [] [6] [] (rs 13 (q3 (.bin .lss (.g 12) (.g 11))<|qe) <| sq (cd 13 .skip <| .exit 0) <| sq (bk 1 (rs 14 (q1 (.iad 1 (.g 10) (.g 12))<|qj<|qv 5<|qe) <| rs 17 (qr 1 0<|qm 5<|qd 148<|q2 16 (.mov (.l 3))<|qx 0<|qy 1<|qG 6 z_0<|qs 6 5 7 5<|qV 7 6<|qe) <| bk 2 (rs 24 (qm 7<|qn<|qv 23<|qe) <| cd 23 .skip <| rs 27 (qf 1 8<|qg 1<|ql 1<|qk .eql 1<|qv 26<|qe) <| cd 26 (r2 31 (qm 3<|qb 1 29<|qr 6 3<|qC 357 (ls [1,3])<|qr 6 3<|qm 5<|qr 6 4<|qf 1 8<|qg 2<|ql 1<|q1 (.build z_17 [(0,1,.c (.int .i64 8)),(2,1,.l 4),(7,1,.l 6),(3,1,.l 7),(4,1,.l 9),(6,1,.l 12)])<|q1 (.mks 36 1 z_17 [(0,.l 13)])<|q1 (.app 3 36 (.l 0) (.l 14))<|qv 3<|qe)) <| rs 48 (qf 1 8<|qg 1<|ql 1<|qk .eql 2<|qv 47<|qe) <| cd 47 (r2 52 (qm 3<|qb 1 29<|qr 6 3<|qC 357 (ls [1,3])<|qr 6 3<|qm 5<|qf 1 8<|qg 2<|ql 1<|qf 1 8<|qg 16<|q1 (.load (.v 1) (some 3) (.l 12))<|q1 (.build z_17 [(0,1,.c (.int .i64 10)),(2,1,.l 4),(7,1,.l 6),(3,1,.l 7),(6,1,.l 10),(9,3,.l 13)])<|q1 (.mks 36 1 z_17 [(0,.l 14)])<|q1 (.app 3 36 (.l 0) (.l 15))<|qv 3<|qe)) .skip))) <| r1 69 (q1 (.bin .add (.g 12) (ci 1))<|qv 12<|qe))
def c370 : C := rs 0 (qB 1 0<|qS 2 36<|qe) <| rs 3 (q3 (.mko 36)<|qe) <| sq (rs 8 (qf 1 8<|qg 15<|q3 (.load (.v 1) none (.l 1))<|qH false<|q3 (.mov (ci 0))<|qe) <| bk 0 l370_0) <| rs 70 (qm 3<|qv 2<|qe) .ret
def F370 : F := mF 1 [.t 2] (some 0) c370
attribute [go_sem] c370 F370
def c371 : C := rs 0 (qB 1 0<|qS 2 36<|qe) <| rs 5 (qR 1 8 20<|qG 3 z_16<|qs 3 20 2 1<|qe) <| rt 7 (qb 1 29<|qr 3 5<|qC 357 (ls [0,2])<|qr 3 5<|qr 3 3<|qr 3 2<|q1 (.build z_17 [(2,1,.l 3),(7,1,.l 5),(3,1,.l 7),(5,1,.l 9)])<|qG 4 z_17<|qs 4 36 11 10<|qe) <| sq (bk 0 (rs 19 (qr 3 1<|qk .eql 7<|qv 18<|qe) <| cd 18 (r1 22 (qf 4 0<|qu 4 0 22<|qe)) <| rs 24 (qr 3 0<|qk .eql 2<|ya<|qr 3 1<|qk .eql 1<|za 3<|qv 23<|qe) <| cd 23 (r2 32 (qr 3 7<|qr 3 2<|qr 3 8<|qf 4 0<|qu 4 6 26<|qf 4 4<|qs 4 1 8 1<|qf 4 8<|qs 4 1 10 3<|qf 4 12<|qs 4 1 12 5<|qe)) <| rs 43 (qr 3 0<|qk .eql 3<|ya<|qr 3 1<|qk .eql 1<|za 3<|qv 42<|qe) <| cd 42 (r2 51 (qr 3 7<|qr 3 4<|qf 4 0<|qu 4 4 28<|qf 4 4<|qs 4 1 6 1<|qf 4 8<|qs 4 1 8 3<|qe)) <| rs 59 (qr 3 0<|qk .neq 1<|qv 58<|qe) <| cd 58 (rs 2 (q3 (.mko 36)<|qe) .ret) <| rs 63 (qr 3 1<|qk .eql 1<|qv 62<|qe) <| cd 62 (r2 66 (qr 3 7<|qf 4 0<|qu 4 2 12<|qf 4 4<|qs 4 1 4 1<|qe)) <| rs 71 (qr 3 1<|qk .eql 2<|qv 70<|qe) <| cd 70 (r2 74 (qr 3 9<|qh false<|qf 4 0<|qu 4 3 14<|qf 4 8<|qs 4 1 5 2<|qe)) <| rs 80 (qr 3 1<|qk .eql 3<|qv 79<|qe) <| cd 79 (r1 83 (qr 3 9<|qC 382 [.l 1,.c (.str [])]<|qf 4 0<|qu 4 3 16<|qf 4 3<|qu 4 5 0<|qf 4 12<|qs 4 1 7 2<|qe)) <| rs 90 (qr 3 1<|qk .eql 4<|qv 89<|qe) <| cd 89 (r2 93 (qr 3 2<|qf 4 0<|qu 4 2 18<|qf 4 4<|qs 4 1 4 1<|qe)) <| rs 98 (qr 3 1<|qk .eql 5<|qv 97<|qe) <| cd 97 (r1 101 (qf 4 0<|qu 4 0 20<|qe)) <| rs 103 (qr 3 1<|qk .eql 6<|qv 102<|qe) <| cd 102 (r1 106 (qf 4 0<|qu 4 0 24<|qe)) <| rs 2 (q3 (.mko 36)<|qe) .ret)) <| i1 107 (qr 4 0<|qk .eql 16<|yo<|qr 4 0<|qk .eql 18<|zo 3<|yo<|qr 4 0<|qk .eql 24<|zO 8<|qe) 119 (r2 120 (qb 1 29<|qr 3 6<|qC 357 (ls [0,2])<|qr 3 6<|qf 4 2<|qs 4 1 6 3<|qf 4 7<|qs 4 1 8 5<|qe)) <| rs 128 (qb 4 36<|q1 (.mkb 36 1 z_17 [(0,.l 0)])<|qv 2<|qe) .ret
def F371 : F := mF 1 [.t 2] (some 0) c371
attribute [go_sem] c371 F371
def l372_0 : C := .loop [] [] [] [] (lq 13 (qm 5<|qr 2 35<|qh false<|qQ .lss 0<|qe) 17 0 <| sq (bk 1 (rt 20 (qr 2 35<|qm 5<|qi 1<|qj<|qr 3 35<|qm 5<|qi 1<|qj<|qQ .neq 4<|qe) <| cd 30 (rs 0 (qF 4<|qe) .ret) .skip)) <| r1 18 (qm 5<|qk .add 1<|qv 5<|qe))
def c372 : C := rs 0 (qB 2 0<|qB 3 1<|qF 4<|qe) <| i1 6 (qr 2 35<|qh false<|qr 3 35<|qh false<|qQ .neq 2<|qe) 12 (rs 0 (qF 4<|qe) .ret) <| sq (rs 0 (qz 5 0<|qe) <| bk 0 l372_0) <| rs 31 (qr 2 0<|qr 3 0<|qq .eql 1<|ya<|qr 2 1<|qr 3 1<|qq .eql 7<|za 5<|ya<|qr 2 2<|qr 3 2<|qq .eql 14<|za 12<|ya<|qr 2 3<|qr 3 3<|qq .eql 21<|za 19<|ya<|qr 2 4<|qr 3 4<|qq .eql 28<|za 26<|ya<|qr 2 5<|qr 3 5<|qq .eql 35<|za 33<|ya<|qr 2 6<|qr 3 6<|qq .eql 42<|za 40<|ya<|qr 2 7<|qr 3 7<|qq .eql 49<|za 47<|ya<|qr 2 8<|qr 3 8<|qq .eql 56<|za 54<|ya<|qR 2 9 3<|qR 3 9 3<|q1 (.eqa false [.i,.i,.i] (.l 63) (.l 65))<|za 61<|ya<|qr 2 12<|qr 3 12<|qq .eql 70<|za 68<|ya<|qR 2 13 12<|qR 3 13 12<|q1 (.eqa false [.i,.i,.i,.s,.s,.b,.s,.i,.i,.i,.s,.i] (.l 77) (.l 79))<|za 75<|ya<|qR 2 25 9<|qR 3 25 9<|qC 101 (ls [84,86])<|za 82<|ya<|qr 2 34<|qr 3 34<|qC 153 (ls [91,93])<|za 89<|qv 4<|qe) .ret
def F372 : F := mF 2 [.t 4] none c372
attribute [go_sem] c372 F372
def c375 : C := rs 0 (qB 1 0<|qS 2 36<|qe) <| rs 3 (qr 1 0<|q1 (.bin .add (ci 10) (.l 1))<|qr 1 1<|qr 1 2<|qR 1 3 3<|qr 1 6<|q1 (.build z_9 [(0,1,.l 10)])<|q1 (.build z_17 [(0,1,.c (.int .i64 6)),(2,1,.l 2),(7,1,.l 4),(6,1,.l 6),(9,3,.l 8),(25,9,.l 11)])<|q1 (.mkb 36 1 z_17 [(0,.l 12)])<|qv 2<|qe) .ret
def F375 : F := mF 1 [.t 2] (some 0) c375
attribute [go_sem] c375 F375
def c376 : C := rs 0 (qB 2 0<|qB 3 1<|qG 4 z_13<|qe) <| rs 6 (qr 2 28<|q1 (.fn 383 [.g 3] [3])<|q1 (.call (.k 384) .borrow none [.l 1,.l 2])<|qv 5<|qe) <| rs 10 (qr 2 28<|q1 (.call (.k 385) .freeze (some 0) [.l 1])<|qf 2 28<|qs 2 1 3 2<|qe) <| sq (bk 0 (rs 22 (qm 5<|qk .lss 0<|qv 21<|qe) <| cd 21 (r1 24 (qr 2 28<|qb 3 7<|q1 (.mks 7 1 z_15 [(0,.l 2)])<|q1 (.app 12 7 (.l 1) (.l 3))<|qf 2 28<|qs 2 1 5 4<|qe)) <| rt 31 (qr 2 28<|qm 5<|qi 7<|qg 0<|q1 (.load (.e 12) none (.l 4))<|qr 3 0<|qq .eql 5<|qv 30<|qe) <| cd 30 (r1 40 (qr 2 28<|qm 5<|qb 3 7<|q1 (.iad 7 (.l 1) (.l 2))<|q5 (.store (.e 12) 7 (.l 4) (.l 3))<|qe)) <| r1 14 (qr 2 28<|qm 5<|qb 3 7<|q1 (.mks 7 1 z_15 [(0,.l 3)])<|q1 (.ins 386 12 7 (.l 1) (.l 2) (.l 4))<|qf 2 28<|qs 2 1 6 5<|qe))) <| rs 45 (qb 2 29<|qt 4 29 0<|qe) .ret
def F376 : F := mF 2 [.cell 4 (some 29)] none c376
attribute [go_sem] c376 F376
def l377_0 : C := .loop [] [] [7] [] (rs 14 (q3 (.bin .lss (.g 13) (.g 12))<|qe) <| sq (cd 14 .skip <| .exit 0) <| sq (bk 1 (rs 15 (q1 (.iad 5 (.g 11) (.g 13))<|qJ 5<|qG 7 z_0<|qs 7 5 2 1<|qe) <| r1 17 (qm 5<|qr 7 2<|q1 (.mks 1 1 [.int .i64 0] [(0,.l 2)])<|q1 (.app 5 1 (.l 0) (.l 3))<|qv 5<|qe))) <| r1 22 (q1 (.bin .add (.g 13) (ci 1))<|qv 13<|qe))
def c377 : C := rs 0 (qB 2 0<|qB 3 1<|qS 4 1<|qe) <| rs 5 (q3 (.mko 1)<|qe) <| sq (rs 8 (qr 2 0<|qb 3 2<|q3 (.call (.k 145) .no none [.l 1,.l 2])<|qH false<|q3 (.mov (ci 0))<|qe) <| bk 0 l377_0) <| rs 23 (qm 5<|qv 4<|qe) .ret
def F377 : F := mF 2 [.t 4] none c377
attribute [go_sem] c377 F377
def c379 : C := rs 0 (qB 1 0<|qG 2 z_13<|qS 3 36<|qe) <| rs 8 (qR 1 8 20<|qG 4 z_16<|qs 4 20 2 1<|qe) <| sq (rs 11 (qr 1 3<|qr 4 2<|qR 4 16 3<|qC 120 (ls [1,3,5])<|q2 10 (.mov (.l 6))<|qx 0<|qy 1<|qw 5<|qw 6<|qe) <| rs 20 (qm 6<|qK .eql 0<|qe) <| cd 21 (r1 22 (qm 5<|qf 1 3<|qs 1 1 1 0<|qe)) .skip) <| rs 24 (q1 (.build z_16 [])<|qf 1 8<|qs 1 20 1 0<|qe) <| rs 26 (qr 4 11<|qr 4 12<|qr 4 2<|qR 4 16 3<|q1 (.build z_15 [(0,1,.l 1),(1,1,.l 3),(2,1,.l 5),(3,3,.l 7)])<|qG 7 z_15<|qs 7 7 9 8<|qe) <| i1 35 (qr 7 0<|qk .lss 1<|yo<|qr 7 0<|qk .gtr 8<|zO 3<|qe) 42 (rs 43 (qb 1 29<|qt 2 29 0<|q4 3 (.mko 36)<|qe) .ret) <| rt 44 (qb 1 29<|qb 7 7<|qd 376<|qb 7 7<|q1 (.call (.k 375) .no (some 0) [.l 3])<|qt 2 29 2<|qw 3<|qe) .ret
def F379 : F := mF 1 [.cell 2 (some 29),.t 3] (some 1) c379
attribute [go_sem] c379 F379
def c381 : C := rs 0 (qB 1 0<|qG 2 z_13<|qe) <| rs 6 (qR 1 8 20<|qG 3 z_16<|qs 3 20 2 1<|qe) <| rs 9 (qr 1 0<|qr 3 3<|qr 3 8<|qr 3 2<|qr 3 2<|qC 156 (ls [1,3,5,7,9])<|q2 8 (.mov (.l 10))<|qx 0<|qy 1<|qw 4<|qw 5<|qe) <| i1 22 (qr 3 0<|qK .eql 3<|qe) 24 (r1 26 (qr 1 0<|qr 3 3<|qr 3 4<|qr 3 2<|qC 157 (ls [1,3,5,7])<|q2 25 (.mov (.l 8))<|qx 0<|qy 1<|qw 4<|qw 5<|qe)) <| i1 37 (qm 5<|qK .eql 0<|qe) 38 (r1 39 (qm 4<|qf 1 0<|qs 1 1 1 0<|qe)) <| rs 41 (q1 (.build z_16 [])<|qf 1 8<|qs 1 20 1 0<|qe) <| rs 43 (qb 1 29<|qt 2 29 0<|qe) .ret
def F381 : F := mF 1 [.cell 2 (some 29)] none c381
attribute [go_sem] c381 F381
def c383 : C := rs 0 (qB 2 0<|qF 3<|qe) <| rs 4 (qr 2 0<|qf 1 0<|qj<|qq .geq 1<|qv 3<|qe) .ret
def F383 : F := mF 2 [.t 3] none c383
attribute [go_sem] c383 F383
def l384_0 : C := .loop [] [] [] [] (rs 9 (q3 (.bin .lss (.g 8) (.g 7))<|qe) <| sq (cd 9 .skip <| .exit 0) <| sq (bk 1 (rs 10 (qm 8<|qv 5<|qe) <| rs 11 (qm 1<|qm 0<|qm 5<|qi 7<|qJ 7<|q3 (.call (.v (.l 0)) .no none [.l 4])<|qe) <| cd 16 (rs 17 (qm 5<|qv 4<|qe) .ret) .skip)) <| r1 18 (q1 (.bin .add (.g 8) (ci 1))<|qv 8<|qe))
def c384 : C := rs 0 (qz 4 0<|qe) <| sq (rs 6 (qm 0<|qH false<|q3 (.mov (ci 0))<|qe) <| bk 0 l384_0) <| rs 0 (qz 4 (-1)<|qe) .ret
def F384 : F := mF 2 [.t 4] none c384
attribute [go_sem] c384 F384
def l395_0 : C := .loop [] [] [8] [] (lq 19 (qm 5<|qK .leq 3<|qe) 20 0 <| sq (bk 1 (rs 24 (qm 5<|q1 (.call (.k 397) .freeze none [.l 0])<|q1 (.call (.k 401) .borrow none [.l 1])<|q2 23 (.mov (.l 2))<|qx 0<|qy 1<|qw 6<|qD 7<|q1 (.mov (.l 5))<|qe) <| rs 30 (qm 0<|qm 5<|q1 (.call (.k 345) .freeze none [.l 1])<|qm 6<|q1 (.call (.k 43) .freeze none [.l 0,.l 2,.l 3])<|q2 29 (.mov (.l 4))<|qx 0<|qy 1<|qG 8 z_5<|qs 8 7 8 6<|qV 9 7<|qe) <| rs 37 (qm 9<|qK .eql 0<|qe) <| cd 38 (r1 39 (qr 4 1<|qm 5<|qb 8 7<|q1 (.build z_19 [(0,1,.l 2),(1,7,.l 3)])<|q1 (.mks 9 1 z_19 [(0,.l 4)])<|q1 (.app 45 9 (.l 1) (.l 5))<|qf 4 1<|qs 4 1 7 6<|qe)) .skip)) <| r1 21 (qm 5<|qk .add 1<|qv 5<|qe))
def c395 : C := rs 0 (qG 2 z_20<|qz 3 0<|qe) <| i1 10 (qm 0<|qk .lss 1<|yo<|qm 0<|qk .gtr 3<|zO 2<|qe) 15 (rs 16 (q1 (.build z_20 [])<|qt 2 2 0<|qz 3 1<|qe) .ret) <| rs 17 (qm 0<|q1 (.build [.int .i64 0,.nslice 9] [(0,1,.l 0)])<|qG 4 z_21<|qs 4 2 2 1<|qe) <| sq (rs 0 (qz 5 1<|qe) <| bk 0 l395_0) <| rs 47 (qb 4 2<|qt 2 2 0<|qz 3 0<|qe) .ret
def F395 : F := mF 1 [.cell 2 (some 2),.t 3] none c395
attribute [go_sem] c395 F395
def l396_0 : C := .loop [] [] [7] [] (lq 18 (qm 5<|qK .leq 3<|qe) 19 0 <| sq (bk 1 (rs 22 (qm 5<|qk .add 1<|qv 6<|qe) <| i1 24 (qm 5<|qK .eql 3<|qe) 25 (r1 0 (qz 6 1<|qe)) <| i1 26 (qm 0<|qm 5<|qq .neq 0<|ya<|qm 0<|qm 6<|qq .neq 4<|zA 3<|qe) 33 (.exit 1) <| rs 35 (qm 0<|qm 5<|qm 6<|q1 (.mks 1 2 [.int .i64 0] [(0,.l 1),(1,.l 2)])<|qm 5<|q1 (.call (.k 402) .borrow none [.l 4])<|q1 (.call (.k 44) .freeze none [.l 0,.l 3,.l 5])<|q2 34 (.mov (.l 6))<|qx 0<|qy 1<|qG 7 z_5<|qs 7 7 10 8<|qD 8<|q1 (.mov (.l 9))<|qe) <| r1 44 (qr 4 1<|qm 5<|qb 7 7<|q1 (.build z_19 [(0,1,.l 2),(1,7,.l 3)])<|q1 (.mks 9 1 z_19 [(0,.l 4)])<|q1 (.app 50 9 (.l 1) (.l 5))<|qf 4 1<|qs 4 1 7 6<|qe))) <| r1 20 (qm 5<|qk .add 1<|qv 5<|qe))
def c396 : C := rs 0 (qG 2 z_20<|qF 3<|qe) <| i1 9 (qm 0<|qk .lss 1<|yo<|qm 0<|qk .gtr 3<|zO 2<|qe) 14 (rs 15 (q1 (.build z_20 [])<|qt 2 2 0<|qF 3<|qe) .ret) <| rs 16 (qm 0<|q1 (.build [.int .i64 0,.nslice 9] [(0,1,.l 0)])<|qG 4 z_21<|qs 4 2 2 1<|qe) <| sq (rs 0 (qz 5 1<|qe) <| bk 0 l396_0) <| rs 52 (qb 4 2<|qt 2 2 0<|qT 3<|qe) .ret
def F396 : F := mF 1 [.cell 2 (some 2),.t 3] none c396
attribute [go_sem] c396 F396
def c397 : C := rs 0 (qG 2 z_8<|qe) <| i1 3 (qm 0<|qK .neq 1<|qe) 4 (rs 5 (q1 (.build z_8 [])<|qt 2 5 0<|qe) .ret) <| rs 6 (q1 (.build z_10 [(0,1,.c (.int .i64 1)),(1,1,.c (.int .i64 1)),(4,1,.c (.int .i64 1))])<|q1 (.mks 17 1 z_10 [(0,.l 0)])<|q1 (.build z_8 [(0,1,.l 1)])<|qt 2 5 2<|qe) .ret
def F397 : F := mF 1 [.cell 2 (some 5)] none c397
attribute [go_sem] c397 F397
def l399_0 : C := .loop [] [] [] [] (lq 20 (qm 5<|qr 2 1<|qh false<|qQ .lss 0<|qe) 24 0 <| sq (bk 1 (rt 27 (qr 2 1<|qm 5<|qi 9<|qg 0<|qj<|qr 3 1<|qm 5<|qi 9<|qg 0<|qj<|qq .neq 5<|yo<|qr 2 1<|qm 5<|qi 9<|qg 1<|qJ 7<|qr 3 1<|qm 5<|qi 9<|qg 1<|qJ 7<|qC 45 (ls [19,25])<|qn<|zo 13<|yo<|qr 2 1<|qm 5<|qi 9<|qg 8<|qj<|qr 3 1<|qm 5<|qi 9<|qg 8<|qj<|qC 360 (ls [35,41])<|qn<|zO 29<|qe) <| cd 71 (rs 0 (qF 4<|qe) .ret) .skip)) <| r1 25 (qm 5<|qk .add 1<|qv 5<|qe))
def c399 : C := rs 0 (qB 2 0<|qB 3 1<|qF 4<|qe) <| i1 6 (qr 2 0<|qr 3 0<|qq .neq 1<|yo<|qr 2 1<|qh false<|qr 3 1<|qh false<|qq .neq 8<|zO 5<|qe) 19 (rs 0 (qF 4<|qe) .ret) <| sq (rs 0 (qz 5 0<|qe) <| bk 0 l399_0) <| rs 0 (qT 4<|qe) .ret
def F399 : F := mF 2 [.t 4] none c399
attribute [go_sem] c399 F399
def l401_0 : C := .loop [] [4,0,10400] [6] [20200] (rs 25 (q3 (.bin .lss (.g 24) (.g 23))<|qe) <| sq (cd 25 .skip <| .exit 0) <| sq (bk 1 (rs 26 (q1 (.iad 17 (.g 22) (.g 24))<|qJ 17<|qG 6 z_10<|qs 6 17 2 1<|qe) <| r1 28 (qb 6 17<|q1 (.rcall 423 [.g 4,.l 0] 0 4 20200)<|qe))) <| r1 30 (q1 (.bin .add (.g 24) (ci 1))<|qv 24<|qe))
def c401 : C := rs 0 (qB 1 0<|qE 2<|qz 3 0<|qe) <| i1 7 (qb 1 5<|qc 249<|qN<|qe) 9 (rs 0 (qE 2<|qz 3 1<|qe) .ret) <| rs 4 (q3 (.allo [.nslice 1] 10400)<|qe) <| rs 10 (qR 1 1 3<|q1 (.mks 3 1 z_3 [(0,.l 1)])<|q1 (.rcall 421 [.g 4,.l 2] 0 4 20000)<|qe) <| rs 14 (qr 1 4<|qr 1 0<|qh false<|q1 (.mks 1 2 [.int .i64 0] [(0,.l 1),(1,.l 4)])<|q1 (.rcall 422 [.g 4,.l 5] 0 4 20100)<|qe) <| sq (rs 21 (qf 1 0<|q3 (.load (.v 1) none (.l 0))<|qH false<|q3 (.mov (ci 0))<|qe) <| bk 0 l401_0) <| rs 31 (qr 4 0<|q1 (.b2s (.l 1))<|qv 2<|qz 3 0<|qe) .ret
def F401 : F := mF 1 [.t 2,.t 3] none c401
attribute [go_sem] c401 F401
def c402 : C := rs 0 (qE 2<|qe) <| rs 4 (q1 (.build z_8 [])<|qG 3 z_8<|qs 3 5 1 0<|qe) <| i1 5 (qm 0<|qK .eql 1<|qe) 6 (r1 7 (q1 (.build z_10 [(0,1,.c (.int .i64 1)),(1,1,.c (.int .i64 1)),(4,1,.c (.int .i64 1))])<|q1 (.mks 17 1 z_10 [(0,.l 0)])<|qf 3 0<|qs 3 1 2 1<|qe)) <| rs 10 (qb 3 5<|qc 424<|qv 2<|qe) .ret
def F402 : F := mF 1 [.t 2] none c402
attribute [go_sem] c402 F402
def c406 : C := rs 0 (qB 2 0<|qG 4 z_8<|qF 5<|qe) <| rs 11 (qb 2 2<|qm 1<|qd 427<|q2 10 (.mov (.l 2))<|qx 0<|qy 1<|qG 6 z_19<|qs 6 9 6 4<|qV 7 5<|qe) <| i1 16 (qb 2 2<|qc 408<|qn<|yo<|qm 7<|qn<|zo 3<|yo<|qR 6 1 7<|qc 40<|qn<|zO 7<|qe) 28 (rs 29 (q1 (.build z_8 [])<|qt 4 5 0<|qF 5<|qe) .ret) <| rs 31 (qf 6 1<|qg 4<|ql 6<|qc 428<|q2 30 (.mov (.l 3))<|qx 0<|qy 1<|qG 8 z_8<|qs 8 5 7 5<|qD 9<|q1 (.mov (.l 6))<|qe) <| rs 37 (qb 8 5<|qt 4 5 0<|qT 5<|qe) .ret
def F406 : F := mF 2 [.cell 4 (some 5),.t 5] none c406
attribute [go_sem] c406 F406
def l407_0 : C := .loop [] [] [6] [] (rs 15 (q3 (.bin .lss (.g 14) (.g 13))<|qe) <| sq (cd 15 .skip <| .exit 0) <| sq (bk 1 (rs 16 (q1 (.iad 9 (.g 12) (.g 14))<|qJ 9<|qG 6 z_19<|qs 6 9 2 1<|qe) <| r2 18 (qm 4<|qr 6 0<|qR 6 1 7<|qc 51<|qC 429 (ls [2,5])<|q1 (.app 4 36 (.l 0) (.l 6))<|qv 4<|qe))) <| r1 26 (q1 (.bin .add (.g 14) (ci 1))<|qv 14<|qe))
def c407 : C := rs 0 (qB 1 0<|qG 2 z_20<|qS 3 36<|qe) <| rs 4 (q3 (.mko 36)<|qe) <| i1 7 (qb 1 2<|qc 408<|qN<|qe) 9 (rs 10 (qb 1 2<|qt 2 2 0<|qS 3 36<|qe) .ret) <| sq (rs 11 (qf 1 1<|q3 (.load (.v 1) none (.l 0))<|qH false<|q3 (.mov (ci 0))<|qe) <| bk 0 l407_0) <| rs 27 (qb 1 2<|qm 4<|qt 2 2 0<|qw 3<|qe) .ret
def F407 : F := mF 1 [.cell 2 (some 2),.t 3] none c407
attribute [go_sem] c407 F407
def l408_0 : C := .loop [] [] [5] [] (rs 10 (q3 (.bin .lss (.g 9) (.g 8))<|qe) <| sq (cd 10 .skip <| .exit 0) <| sq (bk 1 (rs 11 (q1 (.iad 9 (.g 7) (.g 9))<|qJ 9<|qG 5 z_19<|qs 5 9 2 1<|qe) <| i1 13 (qr 5 0<|qm 3<|qq .leq 1<|yo<|qr 5 0<|qc 368<|qn<|zo 4<|yo<|qf 5 1<|qg 0<|ql 5<|qr 1 0<|qq .neq 13<|zo 10<|yo<|qR 5 1 7<|qc 39<|qn<|zo 18<|yo<|qf 5 1<|qg 4<|ql 5<|qc 430<|qn<|zo 24<|yo<|qf 5 1<|qg 5<|ql 5<|qc 430<|qn<|zO 31<|qe) 50 (rs 0 (qF 2<|qe) .ret) <| i1 51 (qr 5 8<|qh false<|qk .gtr 0<|ya<|qR 5 1 7<|qc 41<|qn<|za 4<|yo<|qr 5 8<|q1 (.fn 431 [.g 1] [1])<|qd 432<|zO 10<|qe) 66 (rs 0 (qF 2<|qe) .ret) <| r1 67 (qr 5 0<|qv 3<|qe))) <| r1 69 (q1 (.bin .add (.g 9) (ci 1))<|qv 9<|qe))
def c408 : C := rs 0 (qB 1 0<|qF 2<|qe) <| rs 0 (qz 3 0<|qe) <| sq (rs 6 (qf 1 1<|q3 (.load (.v 1) none (.l 0))<|qH false<|q3 (.mov (ci 0))<|qe) <| bk 0 l408_0) <| rs 70 (qr 1 0<|qk .geq 1<|ya<|qr 1 0<|qk .leq 3<|za 3<|qv 2<|qe) .ret
def F408 : F := mF 1 [.t 2] none c408
attribute [go_sem] c408 F408
def c413 : C := rs 0 (qB 3 0<|qB 5 2<|qG 6 z_20<|qS 7 36<|qe) <| i1 14 (qb 3 2<|qc 408<|qn<|yo<|qb 5 36<|qc 341<|qn<|zo 3<|yo<|qm 1<|qk .lss 0<|zo 8<|yo<|qm 1<|qk .gtr 1099511627776<|zo 12<|yo<|qr 5 2<|qr 3 0<|qq .neq 18<|zO 16<|qe) 36 (rs 37 (qb 3 2<|qt 6 2 0<|qS 7 36<|qe) .ret) <| sq (rs 38 (qf 5 0<|q3 (.load (.v 5) none (.l 0))<|qe) <| bk 0 (sq (rs 41 (q1 (.bin .eql (.g 39) (ci 35))<|qv 40<|qe) <| cd 40 .skip <| rs 42 (q1 (.bin .eql (.g 39) (ci 36))<|qv 40<|qe) <| cd 40 .skip <| r1 43 (q1 (.bin .eql (.g 39) (ci 37))<|qv 40<|qe)) <| cd 40 (rs 44 (qb 3 2<|qb 5 36<|qd 437<|qx 0<|qy 1<|qt 6 2 3<|qw 7<|qe) .ret) <| rs 50 (q1 (.bin .eql (.g 39) (ci 33))<|qv 49<|qe) <| cd 49 (rs 51 (qb 3 2<|qb 5 36<|qd 438<|qx 0<|qy 1<|qt 6 2 3<|qw 7<|qe) .ret) .skip)) <| rs 57 (qb 3 2<|qr 5 7<|qC 427 (ls [0,2])<|q2 56 (.mov (.l 3))<|qx 0<|qy 1<|qG 8 z_19<|qs 8 9 7 5<|qV 9 6<|qe) <| i1 63 (qm 9<|qn<|yo<|qR 8 1 7<|qc 40<|qn<|zO 2<|qe) 70 (i1 71 (qr 5 0<|qK .eql 1<|qe) 73 (rt 74 (qb 3 2<|qb 3 2<|qb 5 36<|q1 (.build z_9 [(0,1,.c (.int .i64 10))])<|qC 439 (ls [1,2,3])<|q1 (.mks 36 1 z_17 [(0,.l 4)])<|qt 6 2 0<|qw 7<|qe) .ret) <| rs 80 (qb 3 2<|qt 6 2 0<|qS 7 36<|qe) .ret) <| i1 81 (qR 8 1 7<|q3 (.call (.k 41) .no none [.l 1])<|qe) 83 (rs 84 (qb 3 2<|qt 6 2 0<|qS 7 36<|qe) .ret) <| rs 86 (qf 8 1<|qg 4<|ql 8<|qc 428<|q2 85 (.mov (.l 3))<|qx 0<|qy 1<|qG 10 z_8<|qs 10 5 7 5<|qD 11<|q1 (.mov (.l 6))<|qe) <| sq (rs 92 (qf 5 0<|q3 (.load (.v 5) none (.l 0))<|qe) <| bk 1 (rs 95 (q1 (.bin .eql (.g 93) (ci 1))<|qv 94<|qe) <| cd 94 (rs 96 (qb 3 2<|qb 8 9<|qb 10 5<|qm 1<|qb 5 36<|qC 440 (ls [0,1,2,3,4])<|qx 0<|qy 1<|qt 6 2 6<|qw 7<|qe) .ret) <| rs 105 (q1 (.bin .eql (.g 93) (ci 14))<|qv 104<|qe) <| cd 104 (rt 106 (qb 3 2<|qb 3 2<|qb 10 5<|qb 5 36<|qC 441 (ls [1,2,3])<|qt 6 2 0<|qw 7<|qe) .ret) <| rs 112 (q1 (.bin .eql (.g 93) (ci 30))<|qv 111<|qe) <| cd 111 (i1 113 (qR 5 9 3<|qR 10 1 3<|qC 15 (ls [1,3])<|qK .leq 0<|qe) 118 (rt 119 (qb 3 2<|qr 3 0<|qr 5 7<|qR 10 1 3<|q1 (.build z_17 [(0,1,.c (.int .i64 31)),(1,1,.l 2),(7,1,.l 4),(9,3,.l 6)])<|q1 (.mks 36 1 z_17 [(0,.l 7)])<|qt 6 2 0<|qw 7<|qe) .ret) <| rt 128 (qb 3 2<|qb 8 9<|qb 10 5<|qR 5 9 3<|qC 261 (ls [2,4])<|qr 3 0<|qr 5 7<|qR 5 9 3<|q1 (.build z_17 [(0,1,.c (.int .i64 31)),(1,1,.l 7),(7,1,.l 9),(9,3,.l 11)])<|q1 (.mks 36 1 z_17 [(0,.l 12)])<|qC 442 (ls [0,1,5,13])<|qx 0<|qy 1<|qt 6 2 15<|qw 7<|qe) .ret) <| rs 146 (q1 (.bin .eql (.g 93) (ci 32))<|qv 145<|qe) <| cd 145 (rs 147 (qb 3 2<|qb 8 9<|qb 10 5<|qb 5 36<|qC 443 (ls [0,1,2,3])<|qx 0<|qy 1<|qt 6 2 5<|qw 7<|qe) .ret) .skip)) <| rs 155 (qb 3 2<|qb 10 5<|qb 5 36<|qC 444 (ls [0,1,2])<|q2 154 (.mov (.l 3))<|qx 0<|qy 1<|qY 4 2<|qG 12 z_8<|qG 13 z_17<|qs 12 5 8 5<|qs 13 36 9 6<|qV 9 7<|qe) <| i1 162 (qm 9<|qN<|qe) 163 (rs 164 (qb 3 2<|qt 6 2 0<|qS 7 36<|qe) .ret) <| rt 165 (qr 3 0<|qr 5 7<|qf 13 1<|qs 13 1 4 1<|qf 13 7<|qs 13 1 6 3<|qe) <| rs 171 (qb 3 2<|qb 8 9<|qb 12 5<|qb 13 36<|q1 (.mks 36 1 z_17 [(0,.l 3)])<|qC 442 (ls [0,1,2,4])<|qx 0<|qy 1<|qt 6 2 6<|qw 7<|qe) .ret
def F413 : F := mF 3 [.cell 6 (some 2),.t 7] none c413
attribute [go_sem] c413 F413
def l421_0 : C := .loop [] [0,0,9000] [5] [] (rs 11 (q3 (.bin .lss (.g 10) (.g 9))<|qe) <| sq (cd 11 .skip <| .exit 0) <| sq (bk 1 (rs 12 (q1 (.iad 3 (.g 8) (.g 10))<|qJ 3<|qG 5 z_3<|qs 5 3 2 1<|qe) <| rs 15 (qb 5 3<|qc 455<|q2 14 (.mov (.l 1))<|qx 0<|qy 1<|qw 6<|qD 7<|q1 (.mov (.l 4))<|qe) <| r1 19 (qm 0<|qm 0<|q1 (.nilc (.l 1))<|qg 0<|ql 0<|qm 6<|q1 (.appd 1 (.l 4) (.l 5))<|q1 (.nilc (.l 0))<|qg 0<|qs 0 1 8 6<|qe))) <| r1 28 (q1 (.bin .add (.g 10) (ci 1))<|qv 10<|qe))
def c421 : C := rs 8 (q3 (.mov (.g 1))<|qH false<|q3 (.mov (ci 0))<|qe) <| bk 0 l421_0
def F421 : F := mF 2 [] none c421
attribute [go_sem] c421 F421
def l422_0 : C := .loop [] [0,0,9000] [] [] (rs 11 (q3 (.bin .lss (.g 10) (.g 9))<|qe) <| sq (cd 11 .skip <| .exit 0) <| sq (bk 1 (rs 12 (q1 (.iad 1 (.g 8) (.g 10))<|qj<|qv 5<|qe) <| rs 15 (qm 5<|qc 456<|q2 14 (.mov (.l 1))<|qx 0<|qy 1<|qw 6<|qD 7<|q1 (.mov (.l 4))<|qe) <| r1 19 (qm 0<|qm 0<|q1 (.nilc (.l 1))<|qg 0<|ql 0<|qm 6<|q1 (.appd 1 (.l 4) (.l 5))<|q1 (.nilc (.l 0))<|qg 0<|qs 0 1 8 6<|qe))) <| r1 28 (q1 (.bin .add (.g 10) (ci 1))<|qv 10<|qe))
def c422 : C := rs 8 (q3 (.mov (.g 1))<|qH false<|q3 (.mov (ci 0))<|qe) <| bk 0 l422_0
def F422 : F := mF 2 [] none c422
attribute [go_sem] c422 F422
def l423_1 : C := .loop [] [0,0,9000] [7] [20600,20700,20800] (rs 71 (q3 (.bin .lss (.g 70) (.g 69))<|qe) <| sq (cd 71 .skip <| .exit 2) <| sq (bk 3 (rs 72 (q1 (.iad 5 (.g 68) (.g 70))<|qJ 5<|qG 7 z_2<|qs 7 5 2 1<|qe) <| rs 74 (qm 0<|qR 7 0 3<|q1 (.mks 3 1 z_3 [(0,.l 2)])<|q1 (.rcall 421 [.l 0,.l 3] 0 0 20600)<|qe) <| rs 79 (qm 0<|qr 7 3<|q1 (.rcall 458 [.l 0,.l 2] 0 0 20700)<|qe) <| r1 83 (qm 0<|qr 7 4<|q1 (.mks 1 1 [.str []] [(0,.l 2)])<|q1 (.rcall 457 [.l 0,.l 3] 0 0 20800)<|qe))) <| r1 88 (q1 (.bin .add (.g 70) (ci 1))<|qv 70<|qe))
def l423_0 : C := .loop [] [0,0,9000] [5,7] [20400,20500,20600,20700,20800] (rs 53 (q3 (.bin .lss (.g 52) (.g 51))<|qe) <| sq (cd 53 .skip <| .exit 0) <| sq (bk 1 (rs 54 (q1 (.iad 2 (.g 50) (.g 52))<|qJ 2<|qG 5 z_7<|qs 5 2 2 1<|qe) <| rs 56 (qm 0<|qr 5 0<|q1 (.mks 1 1 [.str []] [(0,.l 2)])<|q1 (.rcall 457 [.l 0,.l 3] 0 0 20400)<|qe) <| rs 61 (qm 0<|qr 5 1<|qh false<|q1 (.mks 1 1 [.int .i64 0] [(0,.l 3)])<|q1 (.rcall 422 [.l 0,.l 4] 0 0 20500)<|qe) <| rs 67 (qf 5 1<|q3 (.load (.v 5) none (.l 0))<|qH false<|q3 (.mov (ci 0))<|qe) <| bk 2 l423_1)) <| r1 89 (q1 (.bin .add (.g 52) (ci 1))<|qv 52<|qe))
def l423_2 : C := .loop [] [0,0,9000] [9] [21000,21100,21200,21300] (rs 100 (q3 (.bin .lss (.g 99) (.g 98))<|qe) <| sq (cd 100 .skip <| .exit 4) <| sq (bk 5 (rs 101 (q1 (.iad 11 (.g 97) (.g 99))<|qJ 11<|qG 9 z_4<|qs 9 11 2 1<|qe) <| rs 103 (qm 0<|qr 9 0<|qr 9 1<|qf 9 2<|qg 0<|ql 9<|q1 (.mks 1 3 [.int .i64 0] [(0,.l 2),(1,.l 4),(2,.l 7)])<|q1 (.rcall 422 [.l 0,.l 8] 0 0 21000)<|qe) <| rs 113 (qm 0<|qf 9 2<|qg 1<|q1 (.load (.v 9) (some 3) (.l 2))<|q1 (.mks 3 1 z_3 [(0,.l 3)])<|q1 (.rcall 421 [.l 0,.l 4] 0 0 21100)<|qe) <| rs 119 (qm 0<|qf 9 2<|qg 4<|ql 9<|q1 (.rcall 458 [.l 0,.l 3] 0 0 21200)<|qe) <| r1 124 (qm 0<|qf 9 2<|qg 5<|ql 9<|q1 (.mks 1 1 [.str []] [(0,.l 3)])<|q1 (.rcall 457 [.l 0,.l 4] 0 0 21300)<|qe))) <| r1 130 (q1 (.bin .add (.g 99) (ci 1))<|qv 99<|qe))
def c423 : C := rs 0 (qB 3 1<|qe) <| rs 10 (qm 0<|qr 3 0<|qr 3 1<|qr 3 4<|qr 3 13<|qr 3 14<|qr 3 15<|qr 3 16<|q1 (.mks 1 7 [.int .i64 0] [(0,.l 2),(1,.l 4),(2,.l 6),(3,.l 8),(4,.l 10),(5,.l 12),(6,.l 14)])<|q1 (.rcall 422 [.l 0,.l 15] 0 0 20000)<|qe) <| rs 27 (qm 0<|qf 3 2<|qg 0<|ql 3<|qf 3 2<|qg 1<|ql 3<|q1 (.mks 1 2 [.str []] [(0,.l 3),(1,.l 6)])<|q1 (.rcall 457 [.l 0,.l 7] 0 0 20100)<|qe) <| rs 36 (qm 0<|qR 3 6 3<|qR 3 9 3<|q1 (.mks 3 2 z_3 [(0,.l 2),(1,.l 4)])<|q1 (.rcall 421 [.l 0,.l 5] 0 0 20200)<|qe) <| rs 43 (qm 0<|qr 3 5<|qh false<|q1 (.mks 1 1 [.int .i64 0] [(0,.l 3)])<|q1 (.rcall 422 [.l 0,.l 4] 0 0 20300)<|qe) <| sq (rs 49 (qf 3 5<|q3 (.load (.v 3) none (.l 0))<|qH false<|q3 (.mov (ci 0))<|qe) <| bk 0 l423_0) <| rs 90 (qm 0<|qr 3 12<|qh false<|q1 (.mks 1 1 [.int .i64 0] [(0,.l 3)])<|q1 (.rcall 422 [.l 0,.l 4] 0 0 20900)<|qe) <| rs 96 (qf 3 12<|q3 (.load (.v 3) none (.l 0))<|qH false<|q3 (.mov (ci 0))<|qe) <| bk 4 l423_2
def F423 : F := mF 2 [] none c423
attribute [go_sem] c423 F423
def l424_0 : C := .loop [] [] [] [] (lq 17 (qm 4<|qr 1 0<|qh false<|qQ .lss 0<|qe) 21 0 <| sq (bk 1 (r1 24 (qm 3<|qr 1 0<|qm 4<|qi 17<|qJ 17<|qc 461<|qq .add 0<|qv 3<|qe))) <| r1 22 (qm 4<|qk .add 1<|qv 4<|qe))
def c424 : C := rs 0 (qB 1 0<|qE 2<|qe) <| rt 5 (qR 1 1 3<|qc 459<|qr 1 4<|qc 460<|qq .add 2<|qr 1 0<|qh false<|qc 460<|qq .add 6<|qv 3<|qe) <| sq (rs 0 (qz 4 0<|qe) <| bk 0 l424_0) <| rs 32 (qm 3<|qv 2<|qe) .ret
def F424 : F := mF 1 [.t 2] none c424
attribute [go_sem] c424 F424
def c427 : C := rs 0 (qB 2 0<|qB 3 1<|qG 4 z_19<|qF 5<|qe) <| rs 7 (qr 2 1<|q1 (.fn 462 [.g 3] [3])<|qd 463<|qv 6<|qe) <| i1 11 (qm 6<|qK .lss 0<|qe) 12 (rs 13 (q1 (.load (.v 3) none (.g 3))<|qr 2 0<|q1 (.build z_5 [(0,1,.l 2)])<|q1 (.build z_19 [(0,1,.l 0),(1,7,.l 3)])<|qt 4 9 4<|qF 5<|qe) .ret) <| rs 18 (qr 2 1<|qm 6<|qi 9<|qJ 9<|qt 4 9 4<|qT 5<|qe) .ret
def F427 : F := mF 2 [.cell 4 (some 9),.t 5] none c427
attribute [go_sem] c427 F427
def l428_0 : C := .loop [] [] [] [] (rs 17 (q3 (.bin .lss (.g 16) (.g 15))<|qe) <| sq (cd 17 .skip <| .exit 0) <| sq (bk 1 (r2 18 (qr 5 0<|qm 4<|q1 (.rcall 467 [.l 2] 0 8 20300)<|q1 (.mks 17 1 z_10 [(0,.l 3)])<|q1 (.app 23 17 (.l 1) (.l 4))<|qf 5 0<|qs 5 1 6 5<|qe))) <| r1 25 (q1 (.bin .add (.g 16) (ci 1))<|qv 16<|qe))
def c428 : C := rs 0 (qG 2 z_8<|qz 3 0<|qe) <| rs 6 (qm 0<|q1 (.build z_22 [(0,1,.l 0)])<|q1 (.box (.l 1))<|qv 4<|qe) <| rs 9 (qm 4<|q1 (.rcall 464 [.l 0] 0 8 20000)<|qm 4<|q1 (.rcall 465 [.l 2] 0 8 20100)<|q1 (.build [.nslice 17,.int .i64 0,.int .i64 0,.int .i64 0,.int .i64 0] [(1,3,.l 1),(4,1,.l 3)])<|qG 5 z_23<|qs 5 5 5 4<|qe) <| sq (rs 14 (qm 4<|q3 (.rcall 466 [.l 0] 0 8 20200)<|q3 (.mov (ci 0))<|qe) <| bk 0 l428_0) <| i1 26 (qm 4<|q1 (.nilc (.l 0))<|qg 1<|ql 8<|yo<|qm 4<|q1 (.nilc (.l 5))<|qg 0<|ql 8<|q1 (.bin .neq (.l 8) (.c (.str [])))<|zo 4<|yo<|qb 5 5<|q1 (.call (.k 249) .borrow none [.l 12])<|qn<|zO 11<|qe) 41 (rs 42 (q1 (.build z_8 [])<|qt 2 5 0<|qz 3 3<|qe) .ret) <| rs 43 (qb 5 5<|qt 2 5 0<|qz 3 0<|qe) .ret
def F428 : F := mF 1 [.cell 2 (some 5),.t 3] none c428
attribute [go_sem] c428 F428
def l429_0 : C := .loop [] [] [7] [] (rs 11 (q3 (.bin .lss (.g 10) (.g 9))<|qe) <| sq (cd 11 .skip <| .exit 0) <| sq (bk 1 (rs 12 (q1 (.iad 7 (.g 8) (.g 10))<|qJ 7<|qG 7 z_6<|qs 7 7 2 1<|qe) <| r1 14 (qm 5<|qr 7 0<|q1 (.bin .add (ci 35) (.l 2))<|qk .sub 1<|qr 7 1<|qr 7 2<|qm 0<|qr 7 3<|qr 7 4<|qr 7 5<|qr 7 6<|q1 (.build z_17 [(0,1,.l 4),(1,1,.l 6),(2,1,.l 8),(7,1,.l 9),(4,1,.l 11),(8,1,.l 13),(35,1,.l 15),(12,1,.l 17)])<|q1 (.mks 36 1 z_17 [(0,.l 18)])<|q1 (.app 5 36 (.l 0) (.l 19))<|qv 5<|qe))) <| r1 35 (q1 (.bin .add (.g 10) (ci 1))<|qv 10<|qe))
def c429 : C := rs 0 (qS 4 36<|qe) <| rs 5 (q3 (.mko 36)<|qe) <| sq (rs 8 (q3 (.mov (.g 1))<|qH false<|q3 (.mov (ci 0))<|qe) <| bk 0 l429_0) <| rs 36 (qm 5<|qv 4<|qe) .ret
def F429 : F := mF 2 [.t 4] (some 0) c429
attribute [go_sem] c429 F429
def c430 : C := rs 0 (qF 2<|qe) <| rs 6 (qm 0<|qc 428<|q2 5 (.mov (.l 1))<|qx 0<|qy 1<|qD 3<|q1 (.alloc z_8)<|qs 3 5 5 3<|q3 (.mov (.l 4))<|qe) <| rs 10 (qm 4<|qk .eql 0<|qv 2<|qe) .ret
def F430 : F := mF 1 [.t 2] none c430
attribute [go_sem] c430 F430
def c431 : C := rs 0 (qB 2 0<|qF 3<|qe) <| rs 4 (qb 2 36<|qc 341<|qn<|yo<|qr 2 1<|qf 1 0<|qj<|qq .neq 5<|zo 3<|qv 3<|qe) .ret
def F431 : F := mF 2 [.t 3] none c431
attribute [go_sem] c431 F431
def c432 : C := rs 0 (qF 4<|qe) <| rs 5 (qm 0<|qm 1<|qd 468<|qk .geq 0<|qv 4<|qe) .ret
def F432 : F := mF 2 [.t 4] none c432
attribute [go_sem] c432 F432
def c437 : C := rs 0 (qB 2 0<|qB 3 1<|qG 4 z_20<|qS 5 36<|qe) <| rs 13 (qb 2 2<|qr 3 7<|qC 427 (ls [0,2])<|q2 12 (.mov (.l 3))<|qx 0<|qy 1<|qG 6 z_19<|qs 6 9 7 5<|qV 7 6<|qe) <| i1 19 (qm 7<|qn<|ya<|qr 3 7<|qc 368<|qn<|zA 2<|qe) 26 (rs 27 (qb 2 2<|qt 4 2 0<|qS 5 36<|qe) .ret) <| i1 28 (qr 3 0<|qk .eql 35<|ya<|qr 3 12<|qc 430<|qn<|zA 3<|qe) 36 (rs 37 (qb 2 2<|qt 4 2 0<|qS 5 36<|qe) .ret) <| rs 38 (qR 6 1 7<|qc 41<|qv 8<|qe) <| rs 42 (qR 6 1 7<|qr 3 0<|qk .sub 35<|qk .add 1<|qr 3 1<|qr 3 2<|qr 3 4<|qr 3 8<|qr 3 35<|qr 3 12<|q1 (.build z_6 [(0,1,.l 5),(1,1,.l 7),(2,1,.l 9),(3,1,.l 11),(4,1,.l 13),(5,1,.l 15),(6,1,.l 17)])<|qC 57 (ls [1,18])<|q2 41 (.mov (.l 19))<|qx 0<|qy 1<|qG 9 z_5<|qs 9 7 23 21<|qV 10 22<|qe) <| i1 64 (qm 7<|qn<|ya<|qr 9 1<|qk .eql 0<|zA 2<|qe) 70 (rs 71 (qb 2 2<|qt 4 2 0<|qS 5 36<|qe) .ret) <| rs 72 (qr 3 7<|qm 10<|q1 (.call (.k 429) .no (some 0) [.l 1,.l 2])<|qv 11<|qe) <| rs 76 (qb 9 7<|qf 6 1<|qs 6 7 1 0<|qe) <| i1 78 (qb 9 7<|qc 41<|qN<|qe) 80 (i1 81 (qm 8<|ya<|qb 9 7<|qc 40<|zA 1<|qe) 85 (r1 86 (qm 11<|qr 6 8<|q1 (.app 75 36 (.l 0) (.l 2))<|qv 11<|qe)) <| r1 90 (qf 6 8<|q5 (.store (.v 6) 1 (.l 0) (.c (.slice 36 [])))<|qe)) <| rs 91 (qb 2 2<|qb 6 9<|qd 473<|qm 11<|qt 4 2 2<|qw 5<|qe) .ret
def F437 : F := mF 2 [.cell 4 (some 2),.t 5] none c437
attribute [go_sem] c437 F437
def c438 : C := rs 0 (qB 2 0<|qB 3 1<|qG 4 z_20<|qS 5 36<|qe) <| rs 13 (qb 2 2<|qr 3 7<|qC 427 (ls [0,2])<|q2 12 (.mov (.l 3))<|qx 0<|qy 1<|qG 6 z_19<|qs 6 9 7 5<|qV 7 6<|qe) <| i1 19 (qm 7<|qN<|qe) 20 (rs 21 (qb 2 2<|qt 4 2 0<|qS 5 36<|qe) .ret) <| rs 23 (qR 6 1 7<|qr 3 4<|qr 3 35<|qC 54 (ls [1,3,5])<|q2 22 (.mov (.l 6))<|qx 0<|qy 1<|qY 7 2<|qG 8 z_5<|qs 8 7 11 8<|qV 9 9<|qV 10 10<|qe) <| i1 33 (qm 10<|qK .neq 0<|qe) 34 (rs 35 (qb 2 2<|qt 4 2 0<|qS 5 36<|qe) .ret) <| rs 36 (qr 2 0<|qr 3 7<|qr 3 4<|q1 (.build z_17 [(0,1,.c (.int .i64 34)),(1,1,.l 1),(7,1,.l 3),(4,1,.l 5),(8,1,.c (.int .i64 1))])<|qG 11 z_17<|qs 11 36 7 6<|qe) <| i1 43 (qb 8 7<|q3 (.call (.k 41) .no none [.l 0])<|qe) 44 (r1 45 (qf 11 8<|qu 11 0 0<|qe)) <| rs 46 (qb 8 7<|qf 6 1<|qs 6 7 1 0<|qf 6 8<|q5 (.store (.v 6) 1 (.l 3) (.c (.slice 36 [])))<|qe) <| rt 49 (qb 2 2<|qb 6 9<|qd 473<|qr 3 7<|qm 9<|q1 (.call (.k 429) .no (some 0) [.l 4,.l 5])<|qb 11 36<|q1 (.mks 36 1 z_17 [(0,.l 7)])<|q1 (.app 55 36 (.l 6) (.l 8))<|qt 4 2 2<|qw 5<|qe) .ret
def F438 : F := mF 2 [.cell 4 (some 2),.t 5] none c438
attribute [go_sem] c438 F438
def c439 : C := rs 0 (qB 3 0<|qB 4 1<|qB 5 2<|qG 6 z_17<|qe) <| rs 7 (qr 3 0<|qr 4 1<|qr 4 7<|qf 4 13<|qg 0<|ql 4<|qf 4 13<|qg 1<|ql 4<|q1 (.build z_24 [(0,1,.l 8),(1,1,.l 11)])<|qb 5 9<|q1 (.build z_17 [(0,1,.c (.int .i64 2)),(1,1,.l 1),(2,1,.l 3),(7,1,.l 5),(13,12,.l 12),(25,9,.l 13)])<|qt 6 36 14<|qe) .ret
def F439 : F := mF 3 [.cell 6 (some 36)] none c439
attribute [go_sem] c439 F439
def c440 : C := rs 0 (qB 5 0<|qB 6 1<|qB 7 2<|qB 9 4<|qG 10 z_20<|qS 11 36<|qe) <| rs 18 (qR 7 1 3<|qG 12 z_3<|qs 12 3 2 1<|qe) <| rs 20 (qr 5 0<|qf 12 2<|qs 12 1 2 1<|qe) <| rs 24 (qb 12 3<|q1 (.build z_3 [(0,3,.l 0)])<|qm 3<|qd 474<|q2 23 (.mov (.l 3))<|qx 0<|qy 1<|qY 4 2<|qD 13<|q1 (.alloc z_3)<|q3 (.alloc z_3)<|qs 13 3 8 5<|qs 14 3 9 6<|q3 (.mov (.l 7))<|qe) <| i1 31 (qm 15<|qK .neq 0<|qe) 32 (rt 33 (qb 5 2<|qb 5 2<|qb 9 36<|qm 15<|q1 (.build z_9 [(0,1,.l 3)])<|qC 439 (ls [1,2,4])<|q1 (.mks 36 1 z_17 [(0,.l 5)])<|qt 10 2 0<|qw 11<|qe) .ret) <| rs 41 (qb 7 5<|qr 9 3<|qr 9 4<|qR 9 13 12<|qb 14 3<|qm 3<|qC 240 (ls [0,2,4,6,7,8])<|q2 40 (.mov (.l 9))<|qx 0<|qy 1<|qG 16 z_8<|qG 17 z_9<|qs 16 5 13 11<|qs 17 9 14 12<|qe) <| i1 53 (qr 17 0<|qk .neq 0<|ya<|qr 17 0<|qk .neq 15<|zA 3<|qe) 60 (rt 61 (qb 5 2<|qb 5 2<|qb 9 36<|qb 17 9<|qC 439 (ls [1,2,3])<|q1 (.mks 36 1 z_17 [(0,.l 4)])<|qt 10 2 0<|qw 11<|qe) .ret) <| rt 67 (qb 5 2<|qb 6 9<|qb 16 5<|qb 5 2<|qb 9 36<|qb 17 9<|qC 439 (ls [3,4,5])<|q1 (.mks 36 1 z_17 [(0,.l 6)])<|qC 442 (ls [0,1,2,7])<|qx 0<|qy 1<|qt 10 2 9<|qw 11<|qe) .ret
def F440 : F := mF 5 [.cell 10 (some 2),.t 11] none c440
attribute [go_sem] c440 F440
def c441 : C := rs 0 (qB 3 0<|qB 4 1<|qB 5 2<|qS 6 36<|qe) <| rs 11 (qb 4 5<|qr 5 3<|qC 247 (ls [0,2])<|q2 10 (.mov (.l 3))<|qx 0<|qy 1<|qG 7 z_10<|qs 7 17 7 5<|qV 8 6<|qe) <| i1 17 (qm 8<|qn<|yo<|qr 7 4<|qk .neq 2<|zo 2<|yo<|qr 7 15<|qr 5 5<|qq .neq 9<|zO 7<|qe) 30 (rs 0 (qS 6 36<|qe) .ret) <| rs 31 (qb 7 17<|qc 475<|qv 9<|qe) <| i1 33 (qr 5 8<|qm 9<|qh false<|qQ .geq 1<|qe) 37 (rs 0 (qS 6 36<|qe) .ret) <| rt 38 (qr 3 0<|qr 5 7<|qr 5 3<|qr 5 5<|qr 5 8<|qm 9<|qh false<|qm 9<|qr 5 8<|q1 (.iad 1 (.l 12) (.l 14))<|qj<|q1 (.build z_17 [(0,1,.c (.int .i64 15)),(1,1,.l 1),(7,1,.l 3),(3,1,.l 5),(5,1,.l 7),(8,1,.l 9),(4,1,.l 11),(12,1,.l 16)])<|q1 (.mks 36 1 z_17 [(0,.l 17)])<|qv 6<|qe) .ret
def F441 : F := mF 3 [.t 6] none c441
attribute [go_sem] c441 F441
def c442 : C := rs 0 (qB 4 0<|qB 5 1<|qB 6 2<|qG 8 z_20<|qS 9 36<|qe) <| rs 17 (qb 6 5<|qc 401<|q2 16 (.mov (.l 1))<|qx 0<|qy 1<|qw 10<|qD 11<|q1 (.mov (.l 4))<|qe) <| rs 22 (qR 5 1 7<|qm 10<|qd 47<|q2 21 (.mov (.l 3))<|qx 0<|qy 1<|qY 4 2<|qG 12 z_5<|qs 12 7 8 5<|qV 13 6<|qV 14 7<|qe) <| i1 29 (qm 14<|qK .neq 0<|qe) 30 (rs 31 (qb 4 2<|qt 8 2 0<|qS 9 36<|qe) .ret) <| rs 32 (qr 5 0<|qm 13<|q1 (.call (.k 429) .no (some 0) [.l 1,.l 2])<|qv 15<|qe) <| rs 36 (qb 12 7<|qm 3<|qf 5 1<|qs 5 7 2 0<|qf 5 8<|qs 5 1 4 1<|qe) <| i1 40 (qb 12 7<|qc 41<|qN<|qe) 42 (r1 43 (qm 15<|qm 3<|q1 (.app 35 36 (.l 0) (.l 1))<|qv 15<|qf 5 8<|q5 (.store (.v 5) 1 (.l 4) (.c (.slice 36 [])))<|qe)) <| rs 47 (qb 4 2<|qb 5 9<|qd 473<|qm 15<|qt 8 2 2<|qw 9<|qe) .ret
def F442 : F := mF 4 [.cell 8 (some 2),.t 9] none c442
attribute [go_sem] c442 F442
def c443 : C := rs 0 (qB 4 0<|qB 5 1<|qB 6 2<|qB 7 3<|qG 8 z_20<|qS 9 36<|qe) <| i1 13 (qr 6 0<|q3 (.call (.k 476) .no none [.l 1,.f 477])<|qe) 15 (rs 16 (qb 4 2<|qt 8 2 0<|qS 9 36<|qe) .ret) <| rs 17 (qb 6 5<|qR 7 9 3<|qC 262 (ls [0,2])<|qG 10 z_8<|qs 10 5 4 3<|qe) <| sq (rs 22 (qb 10 5<|qc 401<|q2 21 (.mov (.l 1))<|qx 0<|qy 1<|qw 11<|qD 12<|q1 (.mov (.l 4))<|qe) <| rs 26 (qm 11<|qf 5 1<|qg 4<|ql 5<|qQ .eql 0<|qe) <| cd 30 (rs 31 (qb 4 2<|qt 8 2 0<|qS 9 36<|qe) .ret) .skip) <| rs 32 (qb 4 2<|qb 5 9<|qb 10 5<|qC 442 [.l 0,.l 1,.l 2,.c (.slice 36 [])]<|qx 0<|qy 1<|qt 8 2 4<|qw 9<|qe) .ret
def F443 : F := mF 4 [.cell 8 (some 2),.t 9] none c443
attribute [go_sem] c443 F443
def c444 : C := rs 3 (q1 (.box (.g 0))<|q3 (.box (.g 1))<|q3 (.box (.g 2))<|q3 (.alloc z_8)<|q3 (.alloc z_17)<|q3 (.mov (cb false))<|qe) <| rs 17 (qr 5 3<|qr 5 5<|q1 (.build z_17 [(3,1,.l 1),(5,1,.l 3)])<|qG 9 z_17<|qs 9 36 5 4<|qe) <| rs 0 (qF 10<|qe) <| sq (rs 22 (qf 5 0<|q3 (.load (.v 5) none (.l 0))<|qe) <| bk 0 (rs 25 (q1 (.bin .eql (.g 23) (ci 8))<|qv 24<|qe) <| cd 24 (rs 27 (qb 4 5<|qr 5 3<|qr 5 4<|qr 5 6<|qC 256 (ls [0,2,4,6])<|q2 26 (.mov (.l 7))<|qx 0<|qy 1<|qt 4 5 9<|qw 10<|qe) <| r1 37 (qr 5 3<|qr 5 6<|qR 4 1 3<|q1 (.build z_17 [(0,1,.c (.int .i64 9)),(3,1,.l 1),(6,1,.l 3),(9,3,.l 5)])<|qt 9 36 6<|qe)) <| rs 45 (q1 (.bin .eql (.g 23) (ci 10))<|qv 44<|qe) <| cd 44 (rs 47 (qb 4 5<|qr 5 3<|qr 5 6<|qR 5 9 3<|qC 258 (ls [0,2,4,6])<|q2 46 (.mov (.l 7))<|qx 0<|qy 1<|qt 4 5 9<|qw 10<|qe) <| r1 57 (qr 5 3<|qr 5 6<|q1 (.build z_17 [(0,1,.c (.int .i64 11)),(3,1,.l 1),(6,1,.l 3)])<|qt 9 36 4<|qe)) <| rs 63 (q1 (.bin .eql (.g 23) (ci 12))<|qv 62<|qe) <| cd 62 (rs 65 (qb 4 5<|qr 5 3<|qr 5 4<|qr 5 5<|qC 265 (ls [0,2,4,6])<|q2 64 (.mov (.l 7))<|qx 0<|qy 1<|qt 4 5 9<|qw 10<|qe) <| rs 76 (qb 4 5<|qr 5 3<|qC 247 (ls [0,2])<|q2 75 (.mov (.l 3))<|qx 0<|qy 1<|qG 11 z_10<|qs 11 17 7 5<|qD 12<|q1 (.mov (.l 6))<|qe) <| r1 82 (qb 11 17<|qc 475<|qh false<|qf 9 0<|qu 9 3 13<|qf 9 8<|qs 9 1 5 2<|qe)) <| rs 88 (q1 (.bin .eql (.g 23) (ci 16))<|qv 87<|qe) <| cd 87 (rs 90 (qr 5 12<|qc 478<|q2 89 (.mov (.l 2))<|qx 0<|qy 1<|qG 13 z_10<|qs 13 17 6 4<|qV 14 5<|qe) <| i1 95 (qm 14<|qK .neq 0<|qe) 96 (rt 97 (qb 4 5<|qb 9 36<|qt 6 5 0<|qt 7 36 1<|qF 8<|qe) .ret) <| rs 100 (qb 4 5<|qb 13 17<|qr 5 5<|qC 253 (ls [0,1,3])<|q2 99 (.mov (.l 4))<|qx 0<|qy 1<|qt 4 5 6<|qw 10<|qe) <| r2 107 (qr 13 0<|qf 9 0<|qu 9 2 17<|qf 9 3<|qs 9 1 4 1<|qe)) <| rs 112 (q1 (.bin .eql (.g 23) (ci 18))<|qv 111<|qe) <| cd 111 (rs 114 (qb 4 5<|qr 5 3<|qr 5 5<|qr 5 4<|qC 266 (ls [0,2,4,6])<|q2 113 (.mov (.l 7))<|qx 0<|qy 1<|qt 4 5 9<|qw 10<|qe) <| r1 124 (qf 9 0<|qu 9 0 19<|qe)) <| rs 126 (q1 (.bin .eql (.g 23) (ci 20))<|qv 125<|qe) <| cd 125 (rs 128 (qb 4 5<|qr 5 3<|qr 5 5<|qC 267 (ls [0,2,4])<|q2 127 (.mov (.l 5))<|qx 0<|qy 1<|qt 4 5 7<|qw 10<|qe) <| r1 136 (qf 9 0<|qu 9 0 21<|qe)) <| rs 138 (q1 (.bin .eql (.g 23) (ci 22))<|qv 137<|qe) <| cd 137 (rs 140 (qb 4 5<|qr 5 3<|qr 5 5<|qC 270 (ls [0,2,4])<|q2 139 (.mov (.l 5))<|qx 0<|qy 1<|qt 4 5 7<|qw 10<|qe) <| rs 149 (qb 4 5<|qr 5 3<|qC 247 (ls [0,2])<|q2 148 (.mov (.l 3))<|qx 0<|qy 1<|qG 15 z_10<|qs 15 17 7 5<|qD 16<|q1 (.mov (.l 6))<|qe) <| r2 155 (qr 15 1<|qf 9 0<|qu 9 2 23<|qf 9 4<|qs 9 1 4 1<|qe)) <| rs 160 (q1 (.bin .eql (.g 23) (ci 24))<|qv 159<|qe) <| cd 159 (rs 162 (qb 4 5<|qr 5 3<|qr 5 5<|qC 271 (ls [0,2,4])<|q2 161 (.mov (.l 5))<|qx 0<|qy 1<|qt 4 5 7<|qw 10<|qe) <| r1 170 (qf 9 0<|qu 9 0 25<|qe)) <| rs 172 (q1 (.bin .eql (.g 23) (ci 26))<|qv 171<|qe) <| cd 171 (rs 174 (qb 4 5<|qr 5 3<|qr 5 4<|qr 5 12<|qr 5 8<|qr 5 5<|qC 273 (ls [0,2,4,6,8,10])<|q2 173 (.mov (.l 11))<|qx 0<|qy 1<|qt 4 5 13<|qw 10<|qe) <| r1 188 (qf 9 0<|qu 9 0 27<|qe)) <| rs 190 (q1 (.bin .eql (.g 23) (ci 28))<|qv 189<|qe) <| cd 189 (rs 192 (qb 4 5<|qr 5 3<|qr 5 8<|qr 5 4<|qr 5 5<|qC 275 (ls [0,2,4,6,8])<|q2 191 (.mov (.l 9))<|qx 0<|qy 1<|qt 4 5 11<|qw 10<|qe) <| r1 204 (qf 9 0<|qu 9 0 29<|qe)) .skip)) <| rt 205 (qb 4 5<|qb 9 36<|qm 10<|qt 6 5 0<|qt 7 36 1<|qV 8 2<|qe) .ret
def F444 : F := mF 3 [.cell 6 (some 5),.cell 7 (some 36),.t 8] none c444
attribute [go_sem] c444 F444
def c455 : C := rs 0 (qB 1 0<|qE 2<|qz 3 0<|qe) <| i1 4 (qb 1 3<|qc 28<|qN<|qe) 6 (rs 0 (qE 2<|qz 3 1<|qe) .ret) <| rs 7 (qr 1 0<|qr 1 1<|qr 1 2<|q1 (.mks 1 3 [.int .i64 0] [(0,.l 1),(1,.l 3),(2,.l 5)])<|qc 483<|qx 0<|qy 1<|qw 2<|qw 3<|qe) .ret
def F455 : F := mF 1 [.t 2,.t 3] none c455
attribute [go_sem] c455 F455
def l456_0 : C := .loop [] [] [] [] (lq 7 (qm 0<|qK .geq 128<|qe) 8 0 <| bk 1 (rs 9 (qm 4<|qm 0<|q1 (.conv (.int .u8) (.l 1))<|q1 (.bin .or (.l 2) (.c (.int .u8 128)))<|q1 (.mks 1 1 [.int .u8 0] [(0,.l 3)])<|q1 (.app 4 1 (.l 0) (.l 4))<|qv 4<|qe) <| r1 15 (qm 0<|q1 (.sh .shr (.l 0) (.c (.int .u64 7)))<|qv 0<|qe)))
def c456 : C := rs 0 (qE 2<|qz 3 0<|qe) <| i1 5 (qm 0<|qK .lss 0<|qe) 6 (rs 0 (qE 2<|qz 3 1<|qe) .ret) <| rs 4 (q3 (.mko 1)<|qe) <| sq (bk 0 l456_0) <| rs 17 (qm 4<|qm 0<|q1 (.conv (.int .u8) (.l 1))<|q1 (.mks 1 1 [.int .u8 0] [(0,.l 2)])<|q1 (.app 4 1 (.l 0) (.l 3))<|q1 (.b2s (.l 4))<|qv 2<|qz 3 0<|qe) .ret
def F456 : F := mF 1 [.t 2,.t 3] none c456
attribute [go_sem] c456 F456
def l457_0 : C := .loop [] [0,0,9000] [] [] (rs 9 (q3 (.bin .lss (.g 8) (.g 7))<|qe) <| sq (cd 9 .skip <| .exit 0) <| sq (bk 1 (rs 10 (q1 (.iad 1 (.g 6) (.g 8))<|qj<|qv 5<|qe) <| r2 12 (qm 0<|qm 0<|q1 (.nilc (.l 1))<|qg 0<|ql 0<|qm 5<|qc 484<|q1 (.appd 1 (.l 4) (.l 6))<|q1 (.nilc (.l 0))<|qg 0<|qs 0 1 9 7<|qe))) <| r1 22 (q1 (.bin .add (.g 8) (ci 1))<|qv 8<|qe))
def c457 : C := rs 6 (q3 (.mov (.g 1))<|qH false<|q3 (.mov (ci 0))<|qe) <| bk 0 l457_0
def F457 : F := mF 2 [] none c457
attribute [go_sem] c457 F457
def c458 : C := r2 4 (qm 0<|qm 0<|q1 (.nilc (.l 1))<|qg 0<|ql 0<|qm 1<|qc 485<|q1 (.appd 1 (.l 4) (.l 6))<|q1 (.nilc (.l 0))<|qg 0<|qs 0 1 9 7<|qe)
def F458 : F := mF 2 [] none c458
attribute [go_sem] c458 F458
def c459 : C := rs 0 (qB 1 0<|qE 2<|qe) <| rs 3 (qb 1 3<|qc 486<|qv 2<|qe) .ret
def F459 : F := mF 1 [.t 2] none c459
attribute [go_sem] c459 F459
def c460 : C := rs 0 (qE 2<|qe) <| rs 6 (qm 0<|qc 487<|q2 5 (.mov (.l 1))<|qx 0<|qy 1<|qw 3<|qD 4<|q1 (.mov (.l 4))<|qe) <| rs 10 (qm 3<|qv 2<|qe) .ret
def F460 : F := mF 1 [.t 2] none c460
attribute [go_sem] c460 F460
def l461_1 : C := .loop [] [] [] [] (lq 81 (qm 6<|qr 5 1<|qh false<|qQ .lss 0<|qe) 85 2 <| sq (bk 3 (r2 88 (qm 3<|qr 5 1<|qm 6<|qi 5<|qg 0<|qJ 3<|qc 459<|qq .add 0<|qr 5 1<|qm 6<|qi 5<|qg 3<|qj<|qc 489<|qq .add 8<|qr 5 1<|qm 6<|qi 5<|qg 4<|qj<|qc 488<|qq .add 16<|qv 3<|qe))) <| r1 86 (qm 6<|qk .add 1<|qv 6<|qe))
def l461_0 : C := .loop [] [] [5] [] (lq 59 (qm 4<|qr 1 5<|qh false<|qQ .lss 0<|qe) 63 0 <| sq (bk 1 (rs 66 (qr 1 5<|qm 4<|qi 2<|qJ 2<|qG 5 z_7<|qs 5 2 5 4<|qe) <| rt 71 (qm 3<|qr 5 0<|qc 488<|qq .add 0<|qr 5 1<|qh false<|qc 460<|qq .add 4<|qv 3<|qe) <| rs 0 (qz 6 0<|qe) <| bk 2 l461_1)) <| r1 64 (qm 4<|qk .add 1<|qv 4<|qe))
def l461_2 : C := .loop [] [] [8] [] (lq 119 (qm 7<|qr 1 12<|qh false<|qQ .lss 0<|qe) 123 4 <| sq (bk 5 (rs 126 (qr 1 12<|qm 7<|qi 11<|qJ 11<|qG 8 z_4<|qs 8 11 5 4<|qe) <| r2 131 (qm 3<|qr 8 0<|qc 460<|qq .add 0<|qr 8 1<|qc 460<|qq .add 4<|qf 8 2<|qg 0<|ql 8<|qc 460<|qq .add 8<|qf 8 2<|qg 1<|q1 (.load (.v 8) (some 3) (.l 15))<|qc 459<|qq .add 13<|qf 8 2<|qg 4<|ql 8<|qc 489<|qq .add 18<|qf 8 2<|qg 5<|ql 8<|qc 488<|qq .add 23<|qv 3<|qe))) <| r1 124 (qm 7<|qk .add 1<|qv 7<|qe))
def c461 : C := rs 0 (qB 1 0<|qE 2<|qe) <| rt 9 (qr 1 0<|qc 460<|qr 1 1<|qc 460<|qq .add 2<|qr 1 4<|qc 460<|qq .add 6<|qr 1 13<|qc 460<|qq .add 10<|qr 1 14<|qc 460<|qq .add 14<|qr 1 15<|qc 460<|qq .add 18<|qr 1 16<|qc 460<|qq .add 22<|qf 1 2<|qg 0<|ql 1<|qc 488<|qq .add 26<|qf 1 2<|qg 1<|ql 1<|qc 488<|qq .add 31<|qR 1 6 3<|qc 459<|qq .add 36<|qR 1 9 3<|qc 459<|qq .add 40<|qr 1 5<|qh false<|qc 460<|qq .add 44<|qv 3<|qe) <| sq (rs 0 (qz 4 0<|qe) <| bk 0 l461_0) <| rs 113 (qm 3<|qr 1 12<|qh false<|qc 460<|qq .add 0<|qv 3<|qe) <| sq (rs 0 (qz 7 0<|qe) <| bk 4 l461_2) <| rs 160 (qm 3<|qv 2<|qe) .ret
def F461 : F := mF 1 [.t 2] none c461
attribute [go_sem] c461 F461
def c462 : C := rs 0 (qB 2 0<|qF 3<|qe) <| rs 4 (qr 2 0<|q1 (.load (.c) none (.g 1))<|qq .eql 1<|qv 3<|qe) .ret
def F462 : F := mF 2 [.t 3] none c462
attribute [go_sem] c462 F462
def l463_0 : C := .loop [] [] [] [] (rs 9 (q3 (.bin .lss (.g 8) (.g 7))<|qe) <| sq (cd 9 .skip <| .exit 0) <| sq (bk 1 (rs 10 (qm 8<|qv 5<|qe) <| rs 11 (qm 1<|qm 0<|qm 5<|qi 9<|qJ 9<|q3 (.call (.v (.l 0)) .no none [.l 4])<|qe) <| cd 16 (rs 17 (qm 5<|qv 4<|qe) .ret) .skip)) <| r1 18 (q1 (.bin .add (.g 8) (ci 1))<|qv 8<|qe))
def c463 : C := rs 0 (qz 4 0<|qe) <| sq (rs 6 (qm 0<|qH false<|q3 (.mov (ci 0))<|qe) <| bk 0 l463_0) <| rs 0 (qz 4 (-1)<|qe) .ret
def F463 : F := mF 2 [.t 4] none c463
attribute [go_sem] c463 F463
def c464 : C := rs 0 (qG 2 z_3<|qe) <| rs 7 (qm 0<|q1 (.nilc (.l 0))<|qg 0<|ql 0<|qc 490<|q2 6 (.mov (.l 4))<|qx 0<|qy 1<|qY 5 2<|qG 3 z_3<|qs 3 3 9 6<|qV 4 7<|qV 5 8<|qe) <| i1 15 (qm 0<|q1 (.nilc (.l 0))<|qg 1<|ql 0<|yo<|qm 5<|qk .neq 0<|zO 4<|qe) 22 (rs 23 (qm 0<|q1 (.nilc (.l 0))<|qg 1<|q5 (.store (.v 0) 1 (.l 2) (cb true))<|qe) <| rs 26 (q1 (.build z_3 [])<|qt 2 3 0<|qe) .ret) <| rs 27 (qm 0<|qm 4<|q1 (.nilc (.l 0))<|qg 0<|qs 0 1 3 1<|qe) <| rs 31 (qb 3 3<|qt 2 3 0<|qe) .ret
def F464 : F := mF 1 [.cell 2 (some 3)] none c464
attribute [go_sem] c464 F464
def c465 : C := rs 0 (qz 2 0<|qe) <| rs 7 (qm 0<|q1 (.nilc (.l 0))<|qg 0<|ql 0<|qc 491<|q2 6 (.mov (.l 4))<|qx 0<|qy 1<|qY 5 2<|qV 3 6<|qV 4 7<|qV 5 8<|qe) <| i1 15 (qm 0<|q1 (.nilc (.l 0))<|qg 1<|ql 0<|yo<|qm 5<|qk .neq 0<|zO 4<|qe) 22 (rs 23 (qm 0<|q1 (.nilc (.l 0))<|qg 1<|q5 (.store (.v 0) 1 (.l 2) (cb true))<|qe) <| rs 0 (qz 2 0<|qe) .ret) <| rs 26 (qm 0<|qm 4<|q1 (.nilc (.l 0))<|qg 0<|qs 0 1 3 1<|qe) <| rs 30 (qm 3<|qv 2<|qe) .ret
def F465 : F := mF 1 [.t 2] none c465
attribute [go_sem] c465 F465
def c466 : C := rs 0 (qz 2 0<|qe) <| rs 4 (qm 0<|q1 (.rcall 465 [.l 0] 0 0 20000)<|qv 3<|qe) <| i1 6 (qm 3<|qm 0<|q1 (.nilc (.l 1))<|qg 0<|ql 0<|qh true<|qQ .gtr 0<|qe) 12 (rs 13 (qm 0<|q1 (.nilc (.l 0))<|qg 1<|q5 (.store (.v 0) 1 (.l 2) (cb true))<|qe) <| rs 0 (qz 2 0<|qe) .ret) <| rs 16 (qm 3<|qv 2<|qe) .ret
def F466 : F := mF 1 [.t 2] none c466
attribute [go_sem] c466 F466
def l467_1 : C := .loop [] [] [] [] (rs 51 (q3 (.bin .lss (.g 50) (.g 49))<|qe) <| sq (cd 51 .skip <| .exit 2) <| sq (bk 3 (r2 52 (qr 4 1<|qm 0<|q1 (.rcall 464 [.l 2] 0 0 21400)<|qm 0<|q1 (.rcall 493 [.l 4] 0 0 21500)<|qm 0<|q1 (.rcall 492 [.l 6] 0 0 21600)<|q1 (.build z_2 [(0,3,.l 3),(3,1,.l 5),(4,1,.l 7)])<|q1 (.mks 5 1 z_2 [(0,.l 8)])<|q1 (.app 62 5 (.l 1) (.l 9))<|qf 4 1<|qs 4 1 11 10<|qe))) <| r1 64 (q1 (.bin .add (.g 50) (ci 1))<|qv 50<|qe))
def l467_0 : C := .loop [] [] [4] [62] (rs 44 (q3 (.bin .lss (.g 43) (.g 42))<|qe) <| sq (cd 44 .skip <| .exit 0) <| sq (bk 1 (rs 45 (qm 0<|q1 (.rcall 492 [.l 0] 0 0 21200)<|q1 (.build [.str [],.nslice 5] [(0,1,.l 1)])<|qG 4 z_25<|qs 4 2 3 2<|qe) <| sq (rs 48 (qm 0<|q3 (.rcall 466 [.l 0] 0 0 21300)<|q3 (.mov (ci 0))<|qe) <| bk 2 l467_1) <| r1 65 (qr 3 5<|q1 (.ldf 62 4 2 (.g 4))<|q1 (.mks 2 1 z_7 [(0,.l 2)])<|q1 (.app 69 2 (.l 1) (.l 3))<|qf 3 5<|qs 3 1 5 4<|qe))) <| r1 71 (q1 (.bin .add (.g 43) (ci 1))<|qv 43<|qe))
def l467_2 : C := .loop [] [] [5] [] (rs 75 (q3 (.bin .lss (.g 74) (.g 73))<|qe) <| sq (cd 75 .skip <| .exit 4) <| sq (bk 5 (rs 76 (qm 0<|q1 (.rcall 465 [.l 0] 0 0 21800)<|qm 0<|q1 (.rcall 465 [.l 2] 0 0 21900)<|q1 (.build z_4 [(0,1,.l 1),(1,1,.l 3)])<|qG 5 z_4<|qs 5 11 5 4<|qe) <| rs 81 (qm 0<|q1 (.rcall 465 [.l 0] 0 0 22000)<|qm 0<|q1 (.rcall 464 [.l 2] 0 0 22100)<|qm 0<|q1 (.rcall 493 [.l 4] 0 0 22200)<|qm 0<|q1 (.rcall 492 [.l 6] 0 0 22300)<|q1 (.build z_9 [(0,1,.l 1),(1,3,.l 3),(4,1,.l 5),(5,1,.l 7)])<|qf 5 2<|qs 5 9 9 8<|qe) <| r1 91 (qr 3 12<|qb 5 11<|q1 (.mks 11 1 z_4 [(0,.l 2)])<|q1 (.app 95 11 (.l 1) (.l 3))<|qf 3 12<|qs 3 1 5 4<|qe))) <| r1 97 (q1 (.bin .add (.g 74) (ci 1))<|qv 74<|qe))
def c467 : C := rs 0 (qG 2 z_10<|qe) <| rs 0 (qG 3 z_26<|qe) <| rs 6 (qm 0<|q1 (.rcall 465 [.l 0] 0 0 20000)<|qm 0<|q1 (.rcall 465 [.l 2] 0 0 20100)<|qm 0<|q1 (.rcall 465 [.l 4] 0 0 20200)<|qm 0<|q1 (.rcall 465 [.l 6] 0 0 20300)<|qf 3 0<|qs 3 1 8 1<|qf 3 1<|qs 3 1 10 3<|qf 3 4<|qs 3 1 12 5<|qf 3 13<|qs 3 1 14 7<|qe) <| rs 18 (qm 0<|q1 (.rcall 465 [.l 0] 0 0 20400)<|qm 0<|q1 (.rcall 465 [.l 2] 0 0 20500)<|qm 0<|q1 (.rcall 465 [.l 4] 0 0 20600)<|qf 3 14<|qs 3 1 6 1<|qf 3 15<|qs 3 1 8 3<|qf 3 16<|qs 3 1 10 5<|qe) <| rs 27 (qm 0<|q1 (.rcall 492 [.l 0] 0 0 20700)<|qm 0<|q1 (.rcall 492 [.l 2] 0 0 20800)<|qf 3 2<|qg 0<|qs 3 1 5 1<|qf 3 2<|qg 1<|qs 3 1 8 3<|qe) <| rs 35 (qm 0<|q1 (.rcall 464 [.l 0] 0 0 20900)<|qm 0<|q1 (.rcall 464 [.l 2] 0 0 21000)<|qf 3 6<|qs 3 3 4 1<|qf 3 9<|qs 3 3 6 3<|qe) <| sq (rs 41 (qm 0<|q3 (.rcall 466 [.l 0] 0 0 21100)<|q3 (.mov (ci 0))<|qe) <| bk 0 l467_0) <| sq (rs 72 (qm 0<|q3 (.rcall 466 [.l 0] 0 0 21700)<|q3 (.mov (ci 0))<|qe) <| bk 4 l467_2) <| rs 98 (qb 3 17<|qt 2 17 0<|qe) .ret
def F467 : F := mF 1 [.cell 2 (some 17)] none c467
attribute [go_sem] c467 F467
def l468_0 : C := .loop [] [] [] [] (rs 9 (q3 (.bin .lss (.g 8) (.g 7))<|qe) <| sq (cd 9 .skip <| .exit 0) <| sq (bk 1 (rs 10 (qm 8<|qv 5<|qe) <| rs 11 (qm 1<|qm 0<|qm 5<|qi 36<|qJ 36<|q3 (.call (.v (.l 0)) .no none [.l 4])<|qe) <| cd 16 (rs 17 (qm 5<|qv 4<|qe) .ret) .skip)) <| r1 18 (q1 (.bin .add (.g 8) (ci 1))<|qv 8<|qe))
def c468 : C := rs 0 (qz 4 0<|qe) <| sq (rs 6 (qm 0<|qH false<|q3 (.mov (ci 0))<|qe) <| bk 0 l468_0) <| rs 0 (qz 4 (-1)<|qe) .ret
def F468 : F := mF 2 [.t 4] none c468
attribute [go_sem] c468 F468
def c473 : C := rs 0 (qB 2 0<|qB 3 1<|qG 4 z_20<|qe) <| rs 6 (qr 2 1<|q1 (.fn 496 [.g 3] [3])<|q1 (.call (.k 463) .borrow none [.l 1,.l 2])<|qv 5<|qe) <| rs 10 (qr 2 1<|q1 (.call (.k 497) .freeze (some 0) [.l 1])<|qf 2 1<|qs 2 1 3 2<|qe) <| sq (bk 0 (rs 22 (qm 5<|qk .lss 0<|qv 21<|qe) <| cd 21 (r1 24 (qr 2 1<|qb 3 9<|q1 (.mks 9 1 z_19 [(0,.l 2)])<|q1 (.app 12 9 (.l 1) (.l 3))<|qf 2 1<|qs 2 1 5 4<|qe)) <| rt 31 (qr 2 1<|qm 5<|qi 9<|qg 0<|q1 (.load (.e 12) none (.l 4))<|qr 3 0<|qq .eql 5<|qv 30<|qe) <| cd 30 (r1 40 (qr 2 1<|qm 5<|qb 3 9<|q1 (.iad 9 (.l 1) (.l 2))<|q5 (.store (.e 12) 9 (.l 4) (.l 3))<|qe)) <| r1 14 (qr 2 1<|qm 5<|qb 3 9<|q1 (.mks 9 1 z_19 [(0,.l 3)])<|q1 (.ins 498 12 9 (.l 1) (.l 2) (.l 4))<|qf 2 1<|qs 2 1 6 5<|qe))) <| rs 45 (qb 2 2<|qt 4 2 0<|qe) .ret
def F473 : F := mF 2 [.cell 4 (some 2)] none c473
attribute [go_sem] c473 F473
def c474 : C := rs 0 (qB 2 0<|qG 4 z_3<|qG 5 z_3<|qz 6 0<|qe) <| i1 7 (qb 2 3<|qm 1<|qd 499<|qN<|qe) 10 (rs 11 (q1 (.build z_3 [])<|q1 (.build z_3 [])<|qt 4 3 0<|qt 5 3 1<|qz 6 1<|qe) .ret) <| sq (bk 0 (rs 20 (qm 1<|qf 2 0<|qg 0<|ql 2<|qq .gtr 0<|qv 19<|qe) <| cd 19 (r1 25 (qm 1<|qf 2 0<|qg 0<|qs 2 1 2 0<|qf 2 0<|qg 1<|qu 2 5 0<|qe)) <| rs 31 (qf 2 0<|qg 1<|ql 2<|qk .eql 1048576<|qv 30<|qe) <| cd 30 (rs 35 (q1 (.build z_3 [])<|q1 (.build z_3 [])<|qt 4 3 0<|qt 5 3 1<|qz 6 6<|qe) .ret) <| r1 13 (qf 2 0<|qg 1<|ql 2<|qk .add 1<|qf 2 0<|qg 1<|qs 2 1 5 3<|qe))) <| rt 37 (qb 2 3<|qR 2 0 3<|qt 4 3 0<|qt 5 3 2<|qz 6 0<|qe) .ret
def F474 : F := mF 2 [.cell 4 (some 3),.cell 5 (some 3),.t 6] none c474
attribute [go_sem] c474 F474
def l475_0 : C := .loop [] [] [] [] (lq 12 (qm 6<|qm 3<|qh true<|qQ .lss 0<|qe) 15 0 <| sq (bk 1 (r1 18 (qm 5<|qm 3<|qm 6<|qm 3<|qh true<|qm 6<|qk .add 64<|q1 (.mm false (.l 4) (.l 6))<|q1 (.sl true 0 (.l 1) (some (.l 2)) (some (.l 7)))<|q1 (.mks 1 1 [.str []] [(0,.l 8)])<|q1 (.app 5 1 (.l 0) (.l 9))<|qv 5<|qe))) <| r1 16 (qm 6<|qk .add 64<|qv 6<|qe))
def c475 : C := rs 0 (qB 1 0<|qS 2 1<|qe) <| rs 8 (qb 1 17<|qc 500<|q2 7 (.mov (.l 1))<|qx 0<|qy 1<|qw 3<|qD 4<|q1 (.mov (.l 4))<|qe) <| rs 5 (q3 (.mko 1)<|qe) <| sq (rs 0 (qz 6 0<|qe) <| bk 0 l475_0) <| rs 29 (qm 5<|qv 2<|qe) .ret
def F475 : F := mF 1 [.t 2] none c475
attribute [go_sem] c475 F475
def c476 : C := rs 0 (qF 4<|qe) <| rs 5 (qm 0<|qm 1<|qd 501<|qk .geq 0<|qv 4<|qe) .ret
def F476 : F := mF 2 [.t 4] none c476
attribute [go_sem] c476 F476
def c477 : C := rs 0 (qB 1 0<|qF 2<|qe) <| rs 3 (qr 1 4<|qk .eql 2<|qv 2<|qe) .ret
def F477 : F := mF 1 [.t 2] none c477
attribute [go_sem] c477 F477
def c478 : C := rs 0 (qG 2 z_10<|qz 3 0<|qe) <| rs 6 (qm 0<|q1 (.build z_22 [(0,1,.l 0)])<|q1 (.box (.l 1))<|qv 4<|qe) <| rs 9 (qm 4<|q1 (.rcall 467 [.l 0] 0 8 20000)<|qG 5 z_10<|qs 5 17 2 1<|qe) <| i1 11 (qm 4<|q1 (.nilc (.l 0))<|qg 1<|ql 8<|yo<|qm 4<|q1 (.nilc (.l 5))<|qg 0<|ql 8<|q1 (.bin .neq (.l 8) (.c (.str [])))<|zo 4<|yo<|qb 5 17<|qc 244<|qn<|zO 11<|qe) 26 (rs 27 (q1 (.build z_10 [])<|qt 2 17 0<|qz 3 3<|qe) .ret) <| rs 28 (qb 5 17<|qt 2 17 0<|qz 3 0<|qe) .ret
def F478 : F := mF 1 [.cell 2 (some 17),.t 3] none c478
attribute [go_sem] c478 F478
def l483_0 : C := .loop [] [] [] [] (rs 12 (q3 (.bin .lss (.g 11) (.g 10))<|qe) <| sq (cd 12 .skip <| .exit 0) <| sq (bk 1 (rs 13 (q1 (.iad 1 (.g 9) (.g 11))<|qj<|qv 6<|qe) <| rs 16 (qm 6<|qc 456<|q2 15 (.mov (.l 1))<|qx 0<|qy 1<|qw 7<|qw 8<|qe) <| i1 20 (qm 8<|qK .neq 0<|qe) 21 (rs 22 (qm 8<|qE 2<|qw 3<|qe) .ret) <| r1 23 (qm 4<|qm 7<|q1 (.app 4 1 (.l 0) (.l 1))<|qv 4<|qe))) <| r1 26 (q1 (.bin .add (.g 11) (ci 1))<|qv 11<|qe))
def c483 : C := rs 0 (qE 2<|qz 3 0<|qe) <| rs 4 (q3 (.mko 1)<|qe) <| sq (rs 9 (q3 (.mov (.g 0))<|qH false<|q3 (.mov (ci 0))<|qe) <| bk 0 l483_0) <| rs 27 (qm 4<|q1 (.b2s (.l 0))<|qv 2<|qz 3 0<|qe) .ret
def F483 : F := mF 1 [.t 2,.t 3] none c483
attribute [go_sem] c483 F483
def c484 : C := rs 0 (qE 2<|qe) <| rs 6 (qm 0<|qh true<|qc 456<|q2 5 (.mov (.l 2))<|qx 0<|qy 1<|qw 3<|qD 4<|q1 (.mov (.l 5))<|qe) <| rs 11 (qm 3<|qm 0<|qq .add 0<|qv 2<|qe) .ret
def F484 : F := mF 1 [.t 2] none c484
attribute [go_sem] c484 F484
def c485 : C := rs 0 (qE 2<|qe) <| i1 3 (q3 (.mov (.g 0))<|qe) 3 (rs 2 (q3 (.mov (.c (.str [1])))<|qe) .ret) <| rs 2 (q3 (.mov (.c (.str [0])))<|qe) .ret
def F485 : F := mF 1 [.t 2] none c485
attribute [go_sem] c485 F485
def c486 : C := rs 0 (qB 1 0<|qE 2<|qe) <| rs 10 (qr 1 0<|qc 487<|q2 9 (.mov (.l 2))<|qx 0<|qy 1<|qw 3<|qD 4<|q1 (.mov (.l 5))<|qe) <| rs 16 (qr 1 1<|qc 487<|q2 15 (.mov (.l 2))<|qx 0<|qy 1<|qw 5<|qD 6<|q1 (.mov (.l 5))<|qe) <| rs 22 (qr 1 2<|qc 487<|q2 21 (.mov (.l 2))<|qx 0<|qy 1<|qw 7<|qD 8<|q1 (.mov (.l 5))<|qe) <| rs 27 (qm 3<|qm 5<|qq .add 0<|qm 7<|qq .add 2<|qv 2<|qe) .ret
def F486 : F := mF 1 [.t 2] none c486
attribute [go_sem] c486 F486
def l487_0 : C := .loop [] [] [] [] (lq 12 (qm 6<|qm 4<|qh false<|qQ .lss 0<|qe) 15 0 <| sq (bk 1 (rs 18 (qm 4<|qm 6<|qi 1<|qj<|qv 7<|qe) <| i1 22 (qm 6<|qm 4<|qh false<|qk .sub 1<|qQ .lss 0<|qe) 26 (r1 27 (qm 7<|qk .add 128<|qv 7<|qe)) <| r1 29 (qm 5<|qm 7<|q1 (.conv (.int .u8) (.l 1))<|q1 (.mks 1 1 [.int .u8 0] [(0,.l 2)])<|q1 (.b2s (.l 3))<|qq .add 0<|qv 5<|qe))) <| r1 16 (qm 6<|qk .add 1<|qv 6<|qe))
def c487 : C := rs 0 (qE 2<|qz 3 0<|qe) <| i1 8 (qm 0<|qK .lss 0<|qe) 9 (rs 0 (qE 2<|qz 3 1<|qe) .ret) <| rs 10 (qm 0<|qc 502<|qv 4<|qe) <| rs 0 (qE 5<|qe) <| sq (rs 0 (qz 6 0<|qe) <| bk 0 l487_0) <| rs 35 (qm 5<|qv 2<|qz 3 0<|qe) .ret
def F487 : F := mF 1 [.t 2,.t 3] none c487
attribute [go_sem] c487 F487
def c488 : C := rs 0 (qE 2<|qe) <| rs 3 (qm 0<|qc 503<|qv 2<|qe) .ret
def F488 : F := mF 1 [.t 2] none c488
attribute [go_sem] c488 F488
def c489 : C := rs 0 (qE 2<|qe) <| rs 3 (qm 0<|qc 504<|qv 2<|qe) .ret
def F489 : F := mF 1 [.t 2] none c489
attribute [go_sem] c489 F489
def l490_0 : C := .loop [] [] [] [] (rs 12 (q3 (.bin .lss (.g 11) (ci 3))<|qe) <| sq (cd 12 .skip <| .exit 0) <| sq (bk 1 (rs 13 (qm 11<|qv 6<|qe) <| rs 15 (qm 0<|qc 491<|q2 14 (.mov (.l 1))<|qx 0<|qy 1<|qY 2 2<|qV 7 3<|qV 8 4<|qV 9 5<|qe) <| i1 20 (qm 9<|qK .neq 0<|qe) 21 (rs 22 (q1 (.build z_3 [])<|qm 9<|qt 2 3 0<|qE 3<|qV 4 1<|qe) .ret) <| r1 24 (qm 6<|qm 7<|qm 8<|q1 (.iada 1 3 (.g 5) (.l 0))<|qs 5 1 3 1<|qV 0 2<|qe))) <| r1 28 (q1 (.bin .add (.g 11) (ci 1))<|qv 11<|qe))
def c490 : C := rs 0 (qG 2 z_3<|qE 3<|qz 4 0<|qe) <| rs 0 (qG 5 z_3<|qe) <| sq (rs 0 (qz 11 0<|qe) <| bk 0 l490_0) <| rs 29 (q1 (.iada 1 3 (.g 5) (ci 0))<|ql 5<|q1 (.iada 1 3 (.g 5) (ci 1))<|ql 5<|q1 (.iada 1 3 (.g 5) (ci 2))<|ql 5<|q1 (.build z_3 [(0,1,.l 1),(1,1,.l 3),(2,1,.l 5)])<|qG 10 z_3<|qs 10 3 7 6<|qe) <| i1 36 (qb 10 3<|qc 28<|qN<|qe) 38 (rs 39 (q1 (.build z_3 [])<|qt 2 3 0<|qE 3<|qz 4 3<|qe) .ret) <| rs 40 (qb 10 3<|qm 0<|qt 2 3 0<|qw 3<|qz 4 0<|qe) .ret
def F490 : F := mF 1 [.cell 2 (some 3),.t 3,.t 4] none c490
attribute [go_sem] c490 F490
def l491_0 : C := .loop [] [] [] [] (rs 11 (q3 (.bin .lss (.g 10) (.g 9))<|qe) <| sq (cd 11 .skip <| .exit 0) <| sq (bk 1 (rs 12 (qm 10<|qv 6<|qe) <| rs 13 (qm 0<|qm 6<|q1 (.idx (.l 0) (.l 1))<|q1 (.bin .and (.l 2) (.c (.int .u8 127)))<|q1 (.conv (.int .i64) (.l 3))<|qv 7<|qe) <| bk 2 (rs 29 (qm 6<|qk .gtr 8<|ya<|qm 0<|qm 6<|q1 (.idx (.l 3) (.l 4))<|q1 (.bin .geq (.l 5) (.c (.int .u8 128)))<|yo<|qm 7<|qk .gtr 0<|y1 2<|qo 7<|za 2<|qv 28<|qe) <| cd 28 (rs 41 (qm 0<|qc 505<|qz 2 0<|qE 3<|qV 4 1<|qe) .ret) <| rs 44 (qm 0<|qm 6<|q1 (.idx (.l 0) (.l 1))<|q1 (.bin .geq (.l 2) (.c (.int .u8 128)))<|qv 43<|qe) <| cd 43 (r1 48 (qm 5<|qm 7<|qm 6<|q1 (.bin .mul (ci 7) (.l 2))<|q1 (.sh .shl (.l 1) (.l 3))<|qq .or 0<|qv 5<|qe)) <| rs 55 (qm 7<|qk .eql 0<|ya<|qm 6<|qk .gtr 0<|za 2<|qv 54<|qe) <| cd 54 (rs 0 (qz 2 0<|qE 3<|qz 4 3<|qe) .ret) <| rt 18 (qm 5<|qm 7<|qm 6<|q1 (.bin .mul (ci 7) (.l 2))<|q1 (.sh .shl (.l 1) (.l 3))<|qq .or 0<|qm 0<|qm 6<|qk .add 1<|q1 (.sl true 0 (.l 6) (some (.l 8)) none)<|qV 2 5<|qw 3<|qz 4 0<|qe) .ret))) <| r1 61 (q1 (.bin .add (.g 10) (ci 1))<|qv 10<|qe))
def c491 : C := rs 0 (qz 2 0<|qE 3<|qz 4 0<|qe) <| rs 0 (qz 5 0<|qe) <| sq (rs 8 (qm 0<|qH true<|q3 (.mov (ci 0))<|qe) <| bk 0 l491_0) <| rs 0 (qz 2 0<|qE 3<|qz 4 2<|qe) .ret
def F491 : F := mF 1 [.t 2,.t 3,.t 4] none c491
attribute [go_sem] c491 F491
def c492 : C := rs 0 (qE 2<|qe) <| rs 7 (qm 0<|q1 (.nilc (.l 0))<|qg 0<|ql 0<|qc 506<|q2 6 (.mov (.l 4))<|qx 0<|qy 1<|qY 5 2<|qV 3 6<|qV 4 7<|qV 5 8<|qe) <| i1 15 (qm 0<|q1 (.nilc (.l 0))<|qg 1<|ql 0<|yo<|qm 5<|qk .neq 0<|zO 4<|qe) 22 (rs 23 (qm 0<|q1 (.nilc (.l 0))<|qg 1<|q5 (.store (.v 0) 1 (.l 2) (cb true))<|qe) <| rs 0 (qE 2<|qe) .ret) <| rs 26 (qm 0<|qm 4<|q1 (.nilc (.l 0))<|qg 0<|qs 0 1 3 1<|qe) <| rs 30 (qm 3<|qv 2<|qe) .ret
def F492 : F := mF 1 [.t 2] none c492
attribute [go_sem] c492 F492
def c493 : C := rs 0 (qF 2<|qe) <| rs 7 (qm 0<|q1 (.nilc (.l 0))<|qg 0<|ql 0<|qc 507<|q2 6 (.mov (.l 4))<|qx 0<|qy 1<|qY 5 2<|qV 3 6<|qV 4 7<|qV 5 8<|qe) <| i1 15 (qm 0<|q1 (.nilc (.l 0))<|qg 1<|ql 0<|yo<|qm 5<|qk .neq 0<|zO 4<|qe) 22 (rs 23 (qm 0<|q1 (.nilc (.l 0))<|qg 1<|q5 (.store (.v 0) 1 (.l 2) (cb true))<|qe) <| rs 0 (qF 2<|qe) .ret) <| rs 26 (qm 0<|qm 4<|q1 (.nilc (.l 0))<|qg 0<|qs 0 1 3 1<|qe) <| rs 30 (qm 3<|qv 2<|qe) .ret
def F493 : F := mF 1 [.t 2] none c493
attribute [go_sem] c493 F493
def c496 : C := rs 0 (qB 2 0<|qF 3<|qe) <| rs 4 (qr 2 0<|qf 1 0<|qj<|qq .geq 1<|qv 3<|qe) .ret
def F496 : F := mF 2 [.t 3] none c496
attribute [go_sem] c496 F496
def c499 : C := rs 0 (qB 2 0<|qF 4<|qe) <| rs 5 (qR 2 0 3<|qc 28<|ya<|qm 1<|qk .geq 0<|za 3<|ya<|qm 1<|qk .leq 1099511627776<|za 7<|qv 4<|qe) .ret
def F499 : F := mF 2 [.t 4] none c499
attribute [go_sem] c499 F499
def c500 : C := rs 0 (qB 1 0<|qE 2<|qz 3 0<|qe) <| i1 5 (qb 1 17<|qc 244<|qN<|qe) 7 (rs 0 (qE 2<|qz 3 1<|qe) .ret) <| rs 4 (q3 (.allo [.nslice 1] 10400)<|qe) <| rs 8 (qb 1 17<|q1 (.rcall 423 [.g 4,.l 0] 0 4 20000)<|qe) <| rs 10 (qr 4 0<|q1 (.b2s (.l 1))<|qv 2<|qz 3 0<|qe) .ret
def F500 : F := mF 1 [.t 2,.t 3] none c500
attribute [go_sem] c500 F500
def l501_0 : C := .loop [] [] [] [] (rs 9 (q3 (.bin .lss (.g 8) (.g 7))<|qe) <| sq (cd 9 .skip <| .exit 0) <| sq (bk 1 (rs 10 (qm 8<|qv 5<|qe) <| rs 11 (qm 1<|qm 0<|qm 5<|qi 17<|qJ 17<|q3 (.call (.v (.l 0)) .no none [.l 4])<|qe) <| cd 16 (rs 17 (qm 5<|qv 4<|qe) .ret) .skip)) <| r1 18 (q1 (.bin .add (.g 8) (ci 1))<|qv 8<|qe))
def c501 : C := rs 0 (qz 4 0<|qe) <| sq (rs 6 (qm 0<|qH false<|q3 (.mov (ci 0))<|qe) <| bk 0 l501_0) <| rs 0 (qz 4 (-1)<|qe) .ret
def F501 : F := mF 2 [.t 4] none c501
attribute [go_sem] c501 F501
def l502_0 : C := .loop [] [] [] [] (lq 9 (qm 0<|qK .gtr 0<|qe) 10 0 <| bk 1 (rs 11 (qm 3<|qm 0<|qk .rem 128<|q1 (.mks 1 1 [.int .i64 0] [(0,.l 2)])<|q1 (.app 6 1 (.l 0) (.l 3))<|qv 3<|qe) <| r1 16 (qm 0<|qk .quo 128<|qv 0<|qe)))
def c502 : C := rs 0 (qS 2 1<|qe) <| rs 4 (qm 0<|qk .rem 128<|q1 (.mkb 1 1 [.int .i64 0] [(0,.l 1)])<|qv 3<|qe) <| rs 7 (qm 0<|qk .quo 128<|qv 0<|qe) <| sq (bk 0 l502_0) <| rs 18 (qm 3<|qv 2<|qe) .ret
def F502 : F := mF 1 [.t 2] none c502
attribute [go_sem] c502 F502
def c503 : C := rs 0 (qE 2<|qe) <| rs 6 (qm 0<|qh true<|qc 487<|q2 5 (.mov (.l 2))<|qx 0<|qy 1<|qw 3<|qD 4<|q1 (.mov (.l 5))<|qe) <| rs 11 (qm 3<|qm 0<|qq .add 0<|qv 2<|qe) .ret
def F503 : F := mF 1 [.t 2] none c503
attribute [go_sem] c503 F503
def c504 : C := rs 0 (qE 2<|qe) <| i1 3 (q3 (.mov (.g 0))<|qe) 3 (rs 4 (q1 (.mks 1 1 [.int .u8 0] [(0,.c (.int .u8 1))])<|q1 (.b2s (.l 0))<|qv 2<|qe) .ret) <| rs 6 (q1 (.mks 1 1 [.int .u8 0] [(0,.c (.int .u8 0))])<|q1 (.b2s (.l 0))<|qv 2<|qe) .ret
def F504 : F := mF 1 [.t 2] none c504
attribute [go_sem] c504 F504
def l505_0 : C := .loop [] [] [] [] (rs 7 (q3 (.bin .lss (.g 6) (.g 5))<|qe) <| sq (cd 7 .skip <| .exit 0) <| sq (bk 1 (rs 8 (qm 6<|qv 3<|qe) <| rs 9 (qm 0<|qm 3<|q1 (.idx (.l 0) (.l 1))<|q3 (.bin .lss (.l 2) (.c (.int .u8 128)))<|qe) <| cd 12 (rs 0 (qz 2 3<|qe) .ret) .skip)) <| r1 13 (q1 (.bin .add (.g 6) (ci 1))<|qv 6<|qe))
def c505 : C := rs 0 (qz 2 0<|qe) <| sq (rs 4 (qm 0<|qH true<|q3 (.mov (ci 0))<|qe) <| bk 0 l505_0) <| rs 0 (qz 2 2<|qe) .ret
def F505 : F := mF 1 [.t 2] none c505
attribute [go_sem] c505 F505
def c506 : C := rs 0 (qE 2<|qE 3<|qz 4 0<|qe) <| rs 9 (qm 0<|qc 491<|q2 8 (.mov (.l 1))<|qx 0<|qy 1<|qY 2 2<|qV 5 3<|qV 6 4<|qV 7 5<|qe) <| i1 14 (qm 7<|qK .neq 0<|qe) 15 (rs 16 (qm 7<|qE 2<|qE 3<|qV 4 0<|qe) .ret) <| i1 17 (qm 6<|qh true<|qm 5<|qQ .lss 1<|qe) 20 (rs 0 (qE 2<|qE 3<|qz 4 2<|qe) .ret) <| rt 21 (qm 6<|qm 5<|q1 (.sl true 0 (.l 0) none (some (.l 1)))<|qm 6<|qm 5<|q1 (.sl true 0 (.l 3) (some (.l 4)) none)<|qV 2 2<|qw 3<|qz 4 0<|qe) .ret
def F506 : F := mF 1 [.t 2,.t 3,.t 4] none c506
attribute [go_sem] c506 F506
def c507 : C := rs 0 (qF 2<|qE 3<|qz 4 0<|qe) <| sq (bk 0 (rs 6 (qm 0<|q1 (.bin .eql (.l 0) (.c (.str [])))<|qv 5<|qe) <| cd 5 (rs 0 (qF 2<|qE 3<|qz 4 2<|qe) .ret) <| rs 9 (qm 0<|q1 (.idx (.l 0) (ci 0))<|q1 (.bin .gtr (.l 1) (.c (.int .u8 1)))<|qv 8<|qe) <| cd 8 (rs 0 (qF 2<|qE 3<|qz 4 3<|qe) .ret) .skip)) <| rt 12 (qm 0<|q1 (.idx (.l 0) (ci 0))<|q1 (.bin .eql (.l 1) (.c (.int .u8 1)))<|qm 0<|q1 (.sl true 0 (.l 3) (some (ci 1)) none)<|qV 2 2<|qw 3<|qz 4 0<|qe) .ret
def F507 : F := mF 1 [.t 2,.t 3,.t 4] none c507
attribute [go_sem] c507 F507
def l511_1 : C := .loop [] [4,0,10400] [8] [20700] (rs 65 (q3 (.bin .lss (.g 64) (.g 63))<|qe) <| sq (cd 65 .skip <| .exit 2) <| sq (bk 3 (rs 66 (q1 (.iad 36 (.g 62) (.g 64))<|qJ 36<|qG 8 z_17<|qs 8 36 2 1<|qe) <| rs 69 (qb 8 36<|qc 529<|q2 68 (.mov (.l 1))<|qx 0<|qy 1<|qw 9<|qD 10<|q1 (.mov (.l 4))<|qe) <| r1 73 (qm 9<|q1 (.mks 1 1 [.str []] [(0,.l 0)])<|q1 (.rcall 528 [.g 4,.l 1] 0 4 20700)<|qe))) <| r1 76 (q1 (.bin .add (.g 64) (ci 1))<|qv 64<|qe))
def l511_0 : C := .loop [] [4,0,10400] [6,8] [20100,20200,20300,20400,20500,20600,20700] (rs 25 (q3 (.bin .lss (.g 24) (.g 23))<|qe) <| sq (cd 25 .skip <| .exit 0) <| sq (bk 1 (rs 26 (q1 (.iad 9 (.g 22) (.g 24))<|qJ 9<|qG 6 z_19<|qs 6 9 2 1<|qe) <| rs 28 (qr 6 0<|qf 6 1<|qg 1<|ql 6<|q1 (.mks 1 2 [.int .i64 0] [(0,.l 1),(1,.l 4)])<|q1 (.rcall 526 [.g 4,.l 5] 0 4 20100)<|qe) <| rs 35 (qf 6 1<|qg 2<|ql 6<|q1 (.rcall 527 [.g 4,.l 2] 0 4 20200)<|qe) <| rs 39 (qf 6 1<|qg 3<|ql 6<|q1 (.mks 1 1 [.int .i64 0] [(0,.l 2)])<|q1 (.rcall 526 [.g 4,.l 3] 0 4 20300)<|qe) <| rs 44 (qf 6 1<|qg 4<|ql 6<|qf 6 1<|qg 5<|ql 6<|q1 (.mks 1 2 [.str []] [(0,.l 2),(1,.l 5)])<|q1 (.rcall 528 [.g 4,.l 6] 0 4 20400)<|qe) <| rs 52 (qf 6 1<|qg 6<|ql 6<|q1 (.rcall 527 [.g 4,.l 2] 0 4 20500)<|qe) <| rs 56 (qr 6 8<|qh false<|q1 (.mks 1 1 [.int .i64 0] [(0,.l 2)])<|q1 (.rcall 526 [.g 4,.l 3] 0 4 20600)<|qe) <| rs 61 (qf 6 8<|q3 (.load (.v 6) none (.l 0))<|qH false<|q3 (.mov (ci 0))<|qe) <| bk 2 l511_1)) <| r1 77 (q1 (.bin .add (.g 24) (ci 1))<|qv 24<|qe))
def c511 : C := rs 0 (qB 1 0<|qE 2<|qz 3 0<|qe) <| i1 11 (qb 1 2<|qc 408<|qN<|qe) 13 (rs 0 (qE 2<|qz 3 1<|qe) .ret) <| rs 4 (q3 (.allo [.nslice 1] 10400)<|qe) <| rs 14 (qr 1 0<|qr 1 1<|qh false<|q1 (.mks 1 2 [.int .i64 0] [(0,.l 1),(1,.l 4)])<|q1 (.rcall 526 [.g 4,.l 5] 0 4 20000)<|qe) <| sq (rs 21 (qf 1 1<|q3 (.load (.v 1) none (.l 0))<|qH false<|q3 (.mov (ci 0))<|qe) <| bk 0 l511_0) <| rs 78 (qr 4 0<|q1 (.b2s (.l 1))<|qv 2<|qz 3 0<|qe) .ret
def F511 : F := mF 1 [.t 2,.t 3] none c511
attribute [go_sem] c511 F511
def l512_0 : C := .loop [] [] [] [] (rs 15 (q3 (.bin .lss (.g 14) (.g 13))<|qe) <| sq (cd 15 .skip <| .exit 0) <| sq (bk 1 (r2 16 (qr 5 1<|qm 4<|qr 5 0<|q1 (.rcall 532 [.l 2,.l 4] 0 8 20200)<|q1 (.mks 9 1 z_19 [(0,.l 5)])<|q1 (.app 23 9 (.l 1) (.l 6))<|qf 5 1<|qs 5 1 8 7<|qe))) <| r1 25 (q1 (.bin .add (.g 14) (ci 1))<|qv 14<|qe))
def c512 : C := rs 0 (qG 2 z_20<|qz 3 0<|qe) <| rs 6 (qm 0<|q1 (.build z_22 [(0,1,.l 0)])<|q1 (.box (.l 1))<|qv 4<|qe) <| rs 9 (qm 4<|q1 (.rcall 530 [.l 0] 0 8 20000)<|q1 (.build [.int .i64 0,.nslice 9] [(0,1,.l 1)])<|qG 5 z_21<|qs 5 2 3 2<|qe) <| sq (rs 12 (qm 4<|q3 (.rcall 531 [.l 0] 0 8 20100)<|q3 (.mov (ci 0))<|qe) <| bk 0 l512_0) <| i1 26 (qm 4<|q1 (.nilc (.l 0))<|qg 1<|ql 8<|yo<|qm 4<|q1 (.nilc (.l 5))<|qg 0<|ql 8<|q1 (.bin .neq (.l 8) (.c (.str [])))<|zo 4<|yo<|qb 5 2<|q1 (.call (.k 408) .borrow none [.l 12])<|qn<|zO 11<|qe) 41 (rs 42 (q1 (.build z_20 [])<|qt 2 2 0<|qz 3 3<|qe) .ret) <| rs 43 (qb 5 2<|qt 2 2 0<|qz 3 0<|qe) .ret
def F512 : F := mF 1 [.cell 2 (some 2),.t 3] none c512
attribute [go_sem] c512 F512
def l513_1 : C := .loop [] [] [] [] (lq 67 (qm 6<|qr 5 8<|qh false<|qQ .lss 0<|qe) 71 2 <| sq (bk 3 (r1 74 (qm 3<|qr 5 8<|qm 6<|qi 36<|qJ 36<|qc 536<|qc 535<|qq .add 0<|qv 3<|qe))) <| r1 72 (qm 6<|qk .add 1<|qv 6<|qe))
def l513_0 : C := .loop [] [] [5] [] (lq 15 (qm 4<|qr 1 1<|qh false<|qQ .lss 0<|qe) 19 0 <| sq (bk 1 (rs 22 (qr 1 1<|qm 4<|qi 9<|qJ 9<|qG 5 z_19<|qs 5 9 5 4<|qe) <| rt 27 (qm 3<|qr 5 0<|qc 533<|qq .add 0<|qf 5 1<|qg 1<|ql 5<|qc 533<|qq .add 4<|qf 5 1<|qg 2<|ql 5<|qc 534<|qq .add 9<|qf 5 1<|qg 3<|ql 5<|qc 533<|qq .add 14<|qf 5 1<|qg 4<|ql 5<|qc 535<|qq .add 19<|qf 5 1<|qg 5<|ql 5<|qc 535<|qq .add 24<|qf 5 1<|qg 6<|ql 5<|qc 534<|qq .add 29<|qr 5 8<|qh false<|qc 533<|qq .add 34<|qv 3<|qe) <| rs 0 (qz 6 0<|qe) <| bk 2 l513_1)) <| r1 20 (qm 4<|qk .add 1<|qv 4<|qe))
def c513 : C := rs 0 (qB 1 0<|qE 2<|qe) <| rt 7 (qr 1 0<|qc 533<|qr 1 1<|qh false<|qc 533<|qq .add 2<|qv 3<|qe) <| sq (rs 0 (qz 4 0<|qe) <| bk 0 l513_0) <| rs 83 (qm 3<|qv 2<|qe) .ret
def F513 : F := mF 1 [.t 2] none c513
attribute [go_sem] c513 F513
def l516_0 : C := .loop [] [4,0,10400] [6] [20100,20200] (rs 25 (q3 (.bin .lss (.g 24) (.g 23))<|qe) <| sq (cd 25 .skip <| .exit 0) <| sq (bk 1 (rs 26 (q1 (.iad 5 (.g 22) (.g 24))<|qJ 5<|qG 6 z_0<|qs 6 5 2 1<|qe) <| rs 28 (qf 6 0<|qg 0<|ql 6<|qf 6 0<|qg 1<|ql 6<|q1 (.mks 1 2 [.str []] [(0,.l 2),(1,.l 5)])<|q1 (.rcall 528 [.g 4,.l 6] 0 4 20100)<|qe) <| r1 36 (qr 6 2<|qr 6 3<|qr 6 4<|q1 (.mks 1 3 [.int .i64 0] [(0,.l 1),(1,.l 3),(2,.l 5)])<|q1 (.rcall 526 [.g 4,.l 6] 0 4 20200)<|qe))) <| r1 44 (q1 (.bin .add (.g 24) (ci 1))<|qv 24<|qe))
def l516_1 : C := .loop [] [4,0,10400] [8] [20400,20500] (rs 54 (q3 (.bin .lss (.g 53) (.g 52))<|qe) <| sq (cd 54 .skip <| .exit 2) <| sq (bk 3 (rs 55 (q1 (.iad 3 (.g 51) (.g 53))<|qJ 3<|qG 8 z_12<|qs 8 3 2 1<|qe) <| rs 57 (qr 8 0<|q1 (.mks 1 1 [.int .i64 0] [(0,.l 1)])<|q1 (.rcall 526 [.g 4,.l 2] 0 4 20400)<|qe) <| rs 61 (qr 8 1<|q1 (.rcall 527 [.g 4,.l 1] 0 4 20500)<|qe) <| r2 64 (qr 4 0<|qr 8 2<|qc 485<|q1 (.appd 1 (.l 1) (.l 4))<|qf 4 0<|qs 4 1 6 5<|qe))) <| r1 71 (q1 (.bin .add (.g 53) (ci 1))<|qv 53<|qe))
def l516_2 : C := .loop [] [4,0,10400] [10] [20700,20800] (rs 83 (q3 (.bin .lss (.g 82) (.g 81))<|qe) <| sq (cd 83 .skip <| .exit 4) <| sq (bk 5 (rs 84 (q1 (.iad 5 (.g 80) (.g 82))<|qJ 5<|qG 10 z_11<|qs 10 5 2 1<|qe) <| rs 86 (qr 10 0<|qr 10 1<|q1 (.mks 1 2 [.int .i64 0] [(0,.l 1),(1,.l 3)])<|q1 (.rcall 526 [.g 4,.l 4] 0 4 20700)<|qe) <| r1 92 (qR 10 2 3<|q1 (.mks 3 1 z_3 [(0,.l 1)])<|q1 (.rcall 537 [.g 4,.l 2] 0 4 20800)<|qe))) <| r1 96 (q1 (.bin .add (.g 82) (ci 1))<|qv 82<|qe))
def l516_3 : C := .loop [] [4,0,10400] [12] [21400,21500,21600] (rs 121 (q3 (.bin .lss (.g 120) (.g 119))<|qe) <| sq (cd 121 .skip <| .exit 6) <| sq (bk 7 (rs 122 (q1 (.iad 7 (.g 118) (.g 120))<|qJ 7<|qG 12 z_15<|qs 12 7 2 1<|qe) <| rs 124 (qr 12 0<|qr 12 1<|qr 12 2<|q1 (.mks 1 3 [.int .i64 0] [(0,.l 1),(1,.l 3),(2,.l 5)])<|q1 (.rcall 526 [.g 4,.l 6] 0 4 21400)<|qe) <| rs 132 (qR 12 3 3<|q1 (.mks 3 1 z_3 [(0,.l 1)])<|q1 (.rcall 537 [.g 4,.l 2] 0 4 21500)<|qe) <| r1 136 (qr 12 6<|q1 (.mks 1 1 [.int .i64 0] [(0,.l 1)])<|q1 (.rcall 526 [.g 4,.l 2] 0 4 21600)<|qe))) <| r1 140 (q1 (.bin .add (.g 120) (ci 1))<|qv 120<|qe))
def c516 : C := rs 0 (qB 1 0<|qE 2<|qz 3 0<|qe) <| i1 13 (qb 1 29<|qc 328<|qN<|qe) 15 (rs 0 (qE 2<|qz 3 1<|qe) .ret) <| rs 4 (q3 (.allo [.nslice 1] 10400)<|qe) <| rs 16 (qr 1 0<|qh false<|q1 (.mks 1 1 [.int .i64 0] [(0,.l 2)])<|q1 (.rcall 526 [.g 4,.l 3] 0 4 20000)<|qe) <| sq (rs 21 (qf 1 0<|q3 (.load (.v 1) none (.l 0))<|qH false<|q3 (.mov (ci 0))<|qe) <| bk 0 l516_0) <| rs 45 (qr 1 1<|qh false<|q1 (.mks 1 1 [.int .i64 0] [(0,.l 2)])<|q1 (.rcall 526 [.g 4,.l 3] 0 4 20300)<|qe) <| sq (rs 50 (qf 1 1<|q3 (.load (.v 1) none (.l 0))<|qH false<|q3 (.mov (ci 0))<|qe) <| bk 2 l516_1) <| rs 72 (qr 1 2<|qr 1 3<|qh false<|q1 (.mks 1 2 [.int .i64 0] [(0,.l 1),(1,.l 4)])<|q1 (.rcall 526 [.g 4,.l 5] 0 4 20600)<|qe) <| sq (rs 79 (qf 1 3<|q3 (.load (.v 1) none (.l 0))<|qH false<|q3 (.mov (ci 0))<|qe) <| bk 4 l516_2) <| rs 97 (qr 1 4<|qh false<|q1 (.mks 1 1 [.int .i64 0] [(0,.l 2)])<|q1 (.rcall 526 [.g 4,.l 3] 0 4 20900)<|qe) <| rs 102 (qr 1 4<|q1 (.rcall 537 [.g 4,.l 1] 0 4 21000)<|qe) <| rs 105 (qR 1 5 3<|q1 (.mks 3 1 z_3 [(0,.l 1)])<|q1 (.rcall 537 [.g 4,.l 2] 0 4 21100)<|qe) <| rs 109 (qR 1 8 20<|q1 (.rcall 538 [.g 4,.l 1] 0 4 21200)<|qe) <| rs 112 (qr 1 28<|qh false<|q1 (.mks 1 1 [.int .i64 0] [(0,.l 2)])<|q1 (.rcall 526 [.g 4,.l 3] 0 4 21300)<|qe) <| sq (rs 117 (qf 1 28<|q3 (.load (.v 1) none (.l 0))<|qH false<|q3 (.mov (ci 0))<|qe) <| bk 6 l516_3) <| rs 141 (qr 4 0<|q1 (.b2s (.l 1))<|qv 2<|qz 3 0<|qe) .ret
def F516 : F := mF 1 [.t 2,.t 3] none c516
attribute [go_sem] c516 F516
def l517_0 : C := .loop [] [] [6] [] (rs 13 (q3 (.bin .lss (.g 12) (.g 11))<|qe) <| sq (cd 13 .skip <| .exit 0) <| sq (bk 1 (rs 14 (qm 4<|q1 (.rcall 539 [.l 0] 0 9 20100)<|qm 4<|q1 (.rcall 539 [.l 2] 0 9 20200)<|q1 (.build z_1 [(0,1,.l 1),(1,1,.l 3)])<|q1 (.build z_0 [(0,2,.l 4)])<|qG 6 z_0<|qs 6 5 6 5<|qe) <| rs 20 (qm 4<|q1 (.rcall 530 [.l 0] 0 9 20300)<|qm 4<|q1 (.rcall 530 [.l 2] 0 9 20400)<|qm 4<|q1 (.rcall 530 [.l 4] 0 9 20500)<|qf 6 2<|qs 6 1 6 1<|qf 6 3<|qs 6 1 8 3<|qf 6 4<|qs 6 1 10 5<|qe) <| r1 29 (qr 5 0<|qb 6 5<|q1 (.mks 5 1 z_0 [(0,.l 2)])<|q1 (.app 33 5 (.l 1) (.l 3))<|qf 5 0<|qs 5 1 5 4<|qe))) <| r1 35 (q1 (.bin .add (.g 12) (ci 1))<|qv 12<|qe))
def l517_1 : C := .loop [] [] [] [] (rs 39 (q3 (.bin .lss (.g 38) (.g 37))<|qe) <| sq (cd 39 .skip <| .exit 2) <| sq (bk 3 (r2 40 (qr 5 1<|qm 4<|q1 (.rcall 530 [.l 2] 0 9 20700)<|qm 4<|q1 (.rcall 540 [.l 4] 0 9 20800)<|qm 4<|q1 (.rcall 541 [.l 6] 0 9 20900)<|q1 (.build z_12 [(0,1,.l 3),(1,1,.l 5),(2,1,.l 7)])<|q1 (.mks 3 1 z_12 [(0,.l 8)])<|q1 (.app 50 3 (.l 1) (.l 9))<|qf 5 1<|qs 5 1 11 10<|qe))) <| r1 52 (q1 (.bin .add (.g 38) (ci 1))<|qv 38<|qe))
def l517_2 : C := .loop [] [] [] [] (rs 59 (q3 (.bin .lss (.g 58) (.g 57))<|qe) <| sq (cd 59 .skip <| .exit 4) <| sq (bk 5 (r2 60 (qr 5 3<|qm 4<|q1 (.rcall 530 [.l 2] 0 9 21200)<|qm 4<|q1 (.rcall 530 [.l 4] 0 9 21300)<|qm 4<|q1 (.rcall 542 [.l 6] 0 9 21400)<|q1 (.build z_11 [(0,1,.l 3),(1,1,.l 5),(2,3,.l 7)])<|q1 (.mks 5 1 z_11 [(0,.l 8)])<|q1 (.app 70 5 (.l 1) (.l 9))<|qf 5 3<|qs 5 1 11 10<|qe))) <| r1 72 (q1 (.bin .add (.g 58) (ci 1))<|qv 58<|qe))
def l517_3 : C := .loop [] [] [] [] (rs 76 (q3 (.bin .lss (.g 75) (.g 74))<|qe) <| sq (cd 76 .skip <| .exit 6) <| sq (bk 7 (r2 77 (qr 5 4<|qm 4<|q1 (.rcall 542 [.l 2] 0 9 21600)<|q1 (.mks 3 1 z_3 [(0,.l 3)])<|q1 (.app 82 3 (.l 1) (.l 4))<|qf 5 4<|qs 5 1 6 5<|qe))) <| r1 84 (q1 (.bin .add (.g 75) (ci 1))<|qv 75<|qe))
def l517_4 : C := .loop [] [] [] [] (rs 94 (q3 (.bin .lss (.g 93) (.g 92))<|qe) <| sq (cd 94 .skip <| .exit 8) <| sq (bk 9 (r2 95 (qr 5 28<|qm 4<|q1 (.rcall 530 [.l 2] 0 9 22000)<|qm 4<|q1 (.rcall 530 [.l 4] 0 9 22100)<|qm 4<|q1 (.rcall 530 [.l 6] 0 9 22200)<|qm 4<|q1 (.rcall 542 [.l 8] 0 9 22300)<|qm 4<|q1 (.rcall 530 [.l 10] 0 9 22400)<|q1 (.build z_15 [(0,1,.l 3),(1,1,.l 5),(2,1,.l 7),(3,3,.l 9),(6,1,.l 11)])<|q1 (.mks 7 1 z_15 [(0,.l 12)])<|q1 (.app 109 7 (.l 1) (.l 13))<|qf 5 28<|qs 5 1 15 14<|qe))) <| r1 111 (q1 (.bin .add (.g 93) (ci 1))<|qv 93<|qe))
def c517 : C := rs 0 (qG 2 z_13<|qz 3 0<|qe) <| rs 7 (qm 0<|q1 (.build z_22 [(0,1,.l 0)])<|q1 (.box (.l 1))<|qv 4<|qe) <| rs 0 (qG 5 z_27<|qe) <| sq (rs 10 (qm 4<|q3 (.rcall 531 [.l 0] 0 9 20000)<|q3 (.mov (ci 0))<|qe) <| bk 0 l517_0) <| sq (rs 36 (qm 4<|q3 (.rcall 531 [.l 0] 0 9 20600)<|q3 (.mov (ci 0))<|qe) <| bk 2 l517_1) <| rs 53 (qm 4<|q1 (.rcall 530 [.l 0] 0 9 21000)<|qf 5 2<|qs 5 1 2 1<|qe) <| sq (rs 56 (qm 4<|q3 (.rcall 531 [.l 0] 0 9 21100)<|q3 (.mov (ci 0))<|qe) <| bk 4 l517_2) <| sq (rs 73 (qm 4<|q3 (.rcall 531 [.l 0] 0 9 21500)<|q3 (.mov (ci 0))<|qe) <| bk 6 l517_3) <| rs 85 (qm 4<|q1 (.rcall 542 [.l 0] 0 9 21700)<|qm 4<|q1 (.rcall 543 [.l 2] 0 9 21800)<|qf 5 5<|qs 5 3 4 1<|qf 5 8<|qs 5 20 6 3<|qe) <| sq (rs 91 (qm 4<|q3 (.rcall 531 [.l 0] 0 9 21900)<|q3 (.mov (ci 0))<|qe) <| bk 8 l517_4) <| i1 112 (qm 4<|q1 (.nilc (.l 0))<|qg 1<|ql 9<|yo<|qm 4<|q1 (.nilc (.l 5))<|qg 0<|ql 9<|q1 (.bin .neq (.l 8) (.c (.str [])))<|zo 4<|yo<|qb 5 29<|q1 (.call (.k 328) .borrow none [.l 12])<|qn<|zO 11<|qe) 127 (rs 128 (q1 (.build z_13 [])<|qt 2 29 0<|qz 3 3<|qe) .ret) <| rs 129 (qb 5 29<|qt 2 29 0<|qz 3 0<|qe) .ret
def F517 : F := mF 1 [.cell 2 (some 29),.t 3] none c517
attribute [go_sem] c517 F517
def l518_0 : C := .loop [] [] [5] [] (lq 17 (qm 4<|qr 1 0<|qh false<|qQ .lss 0<|qe) 21 0 <| sq (bk 1 (rs 24 (qr 1 0<|qm 4<|qi 5<|qJ 5<|qG 5 z_0<|qs 5 5 5 4<|qe) <| r2 29 (qm 3<|qf 5 0<|qg 0<|ql 5<|qc 535<|qq .add 0<|qf 5 0<|qg 1<|ql 5<|qc 535<|qq .add 5<|qr 5 2<|qc 533<|qq .add 10<|qr 5 3<|qc 533<|qq .add 14<|qr 5 4<|qc 533<|qq .add 18<|qv 3<|qe))) <| r1 22 (qm 4<|qk .add 1<|qv 4<|qe))
def l518_1 : C := .loop [] [] [] [] (lq 58 (qm 6<|qr 1 1<|qh false<|qQ .lss 0<|qe) 62 2 <| sq (bk 3 (r2 65 (qm 3<|qr 1 1<|qm 6<|qi 3<|qg 0<|qj<|qc 533<|qq .add 0<|qr 1 1<|qm 6<|qi 3<|qg 1<|qj<|qc 534<|qq .add 8<|qr 1 1<|qm 6<|qi 3<|qg 2<|qj<|qc 504<|qq .add 16<|qv 3<|qe))) <| r1 63 (qm 6<|qk .add 1<|qv 6<|qe))
def l518_2 : C := .loop [] [] [] [] (lq 100 (qm 7<|qr 1 3<|qh false<|qQ .lss 0<|qe) 104 4 <| sq (bk 5 (r2 107 (qm 3<|qr 1 3<|qm 7<|qi 5<|qg 0<|qj<|qc 533<|qq .add 0<|qr 1 3<|qm 7<|qi 5<|qg 1<|qj<|qc 533<|qq .add 8<|qr 1 3<|qm 7<|qi 5<|qg 2<|qJ 3<|qc 544<|qq .add 16<|qv 3<|qe))) <| r1 105 (qm 7<|qk .add 1<|qv 7<|qe))
def l518_3 : C := .loop [] [] [] [] (lq 138 (qm 8<|qr 1 4<|qh false<|qQ .lss 0<|qe) 142 6 <| sq (bk 7 (r1 145 (qm 3<|qr 1 4<|qm 8<|qi 3<|qJ 3<|qc 544<|qq .add 0<|qv 3<|qe))) <| r1 143 (qm 8<|qk .add 1<|qv 8<|qe))
def l518_4 : C := .loop [] [] [] [] (lq 201 (qm 10<|qr 9 9<|qh false<|qQ .lss 0<|qe) 205 8 <| sq (bk 9 (r1 208 (qm 3<|qr 9 9<|qm 10<|qi 1<|qj<|qc 535<|qq .add 0<|qv 3<|qe))) <| r1 206 (qm 10<|qk .add 1<|qv 10<|qe))
def l518_5 : C := .loop [] [] [12] [] (lq 256 (qm 11<|qr 1 28<|qh false<|qQ .lss 0<|qe) 260 10 <| sq (bk 11 (rs 263 (qr 1 28<|qm 11<|qi 7<|qJ 7<|qG 12 z_15<|qs 12 7 5 4<|qe) <| r2 268 (qm 3<|qr 12 0<|qc 533<|qq .add 0<|qr 12 1<|qc 533<|qq .add 4<|qr 12 2<|qc 533<|qq .add 8<|qR 12 3 3<|qc 544<|qq .add 12<|qr 12 6<|qc 533<|qq .add 16<|qv 3<|qe))) <| r1 261 (qm 11<|qk .add 1<|qv 11<|qe))
def c518 : C := rs 0 (qB 1 0<|qE 2<|qe) <| rs 13 (qr 1 0<|qh false<|qc 533<|qv 3<|qe) <| sq (rs 0 (qz 4 0<|qe) <| bk 0 l518_0) <| rs 52 (qm 3<|qr 1 1<|qh false<|qc 533<|qq .add 0<|qv 3<|qe) <| sq (rs 0 (qz 6 0<|qe) <| bk 2 l518_1) <| rt 90 (qm 3<|qr 1 2<|qc 533<|qq .add 0<|qr 1 3<|qh false<|qc 533<|qq .add 4<|qv 3<|qe) <| sq (rs 0 (qz 7 0<|qe) <| bk 4 l518_2) <| rs 132 (qm 3<|qr 1 4<|qh false<|qc 533<|qq .add 0<|qv 3<|qe) <| sq (rs 0 (qz 8 0<|qe) <| bk 6 l518_3) <| rs 153 (qR 1 8 20<|qG 9 z_16<|qs 9 20 2 1<|qe) <| rt 155 (qm 3<|qR 1 5 3<|qc 544<|qq .add 0<|qr 9 0<|qc 533<|qq .add 4<|qr 9 1<|qc 533<|qq .add 8<|qr 9 2<|qc 533<|qq .add 12<|qr 9 3<|qc 533<|qq .add 16<|qr 9 4<|qc 533<|qq .add 20<|qr 9 5<|qc 533<|qq .add 24<|qr 9 6<|qc 533<|qq .add 28<|qr 9 7<|qc 533<|qq .add 32<|qr 9 8<|qc 535<|qq .add 36<|qr 9 9<|qh false<|qc 533<|qq .add 40<|qv 3<|qe) <| sq (rs 0 (qz 10 0<|qe) <| bk 8 l518_4) <| rt 216 (qm 3<|qr 9 10<|qc 533<|qq .add 0<|qr 9 11<|qc 533<|qq .add 4<|qr 9 12<|qc 533<|qq .add 8<|qf 9 13<|qg 0<|ql 9<|qc 535<|qq .add 12<|qf 9 13<|qg 1<|ql 9<|qc 535<|qq .add 17<|qr 9 15<|qc 534<|qq .add 22<|qR 9 16 3<|qc 544<|qq .add 26<|qr 9 19<|qc 534<|qq .add 30<|qr 1 28<|qh false<|qc 533<|qq .add 34<|qv 3<|qe) <| sq (rs 0 (qz 11 0<|qe) <| bk 10 l518_5) <| rs 289 (qm 3<|qv 2<|qe) .ret
def F518 : F := mF 1 [.t 2] none c518
attribute [go_sem] c518 F518
def l526_0 : C := .loop [] [0,0,9000] [] [] (rs 11 (q3 (.bin .lss (.g 10) (.g 9))<|qe) <| sq (cd 11 .skip <| .exit 0) <| sq (bk 1 (rs 12 (q1 (.iad 1 (.g 8) (.g 10))<|qj<|qv 5<|qe) <| rs 15 (qm 5<|qc 456<|q2 14 (.mov (.l 1))<|qx 0<|qy 1<|qw 6<|qD 7<|q1 (.mov (.l 4))<|qe) <| r1 19 (qm 0<|qm 0<|q1 (.nilc (.l 1))<|qg 0<|ql 0<|qm 6<|q1 (.appd 1 (.l 4) (.l 5))<|q1 (.nilc (.l 0))<|qg 0<|qs 0 1 8 6<|qe))) <| r1 28 (q1 (.bin .add (.g 10) (ci 1))<|qv 10<|qe))
def c526 : C := rs 8 (q3 (.mov (.g 1))<|qH false<|q3 (.mov (ci 0))<|qe) <| bk 0 l526_0
def F526 : F := mF 2 [] none c526
attribute [go_sem] c526 F526
def c527 : C := rs 4 (qm 0<|qm 1<|qh false<|q1 (.mks 1 1 [.int .i64 0] [(0,.l 2)])<|q1 (.rcall 526 [.l 0,.l 3] 0 0 20000)<|qe) <| r1 9 (qm 0<|qm 1<|q1 (.rcall 526 [.l 0,.l 1] 0 0 20100)<|qe)
def F527 : F := mF 2 [] none c527
attribute [go_sem] c527 F527
def l528_0 : C := .loop [] [0,0,9000] [] [] (rs 9 (q3 (.bin .lss (.g 8) (.g 7))<|qe) <| sq (cd 9 .skip <| .exit 0) <| sq (bk 1 (rs 10 (q1 (.iad 1 (.g 6) (.g 8))<|qj<|qv 5<|qe) <| r2 12 (qm 0<|qm 0<|q1 (.nilc (.l 1))<|qg 0<|ql 0<|qm 5<|qc 484<|q1 (.appd 1 (.l 4) (.l 6))<|q1 (.nilc (.l 0))<|qg 0<|qs 0 1 9 7<|qe))) <| r1 22 (q1 (.bin .add (.g 8) (ci 1))<|qv 8<|qe))
def c528 : C := rs 6 (q3 (.mov (.g 1))<|qH false<|q3 (.mov (ci 0))<|qe) <| bk 0 l528_0
def F528 : F := mF 2 [] none c528
attribute [go_sem] c528 F528
def l529_0 : C := .loop [] [4,0,10400] [8] [21400] (rs 101 (q3 (.bin .lss (.g 100) (.g 99))<|qe) <| sq (cd 101 .skip <| .exit 0) <| sq (bk 1 (rs 102 (q1 (.iad 2 (.g 98) (.g 100))<|qJ 2<|qG 8 z_1<|qs 8 2 2 1<|qe) <| r1 104 (qr 8 0<|qr 8 1<|q1 (.mks 1 2 [.str []] [(0,.l 1),(1,.l 3)])<|q1 (.rcall 457 [.g 4,.l 4] 0 4 21400)<|qe))) <| r1 110 (q1 (.bin .add (.g 100) (ci 1))<|qv 100<|qe))
def l529_1 : C := .loop [] [4,0,10400] [10] [21800,21900] (rs 127 (q3 (.bin .lss (.g 126) (.g 125))<|qe) <| sq (cd 127 .skip <| .exit 2) <| sq (bk 3 (rs 128 (q1 (.iad 5 (.g 124) (.g 126))<|qJ 5<|qG 10 z_0<|qs 10 5 2 1<|qe) <| rs 130 (qf 10 0<|qg 0<|ql 10<|qf 10 0<|qg 1<|ql 10<|q1 (.mks 1 2 [.str []] [(0,.l 2),(1,.l 5)])<|q1 (.rcall 457 [.g 4,.l 6] 0 4 21800)<|qe) <| r1 138 (qr 10 2<|qr 10 3<|qr 10 4<|q1 (.mks 1 3 [.int .i64 0] [(0,.l 1),(1,.l 3),(2,.l 5)])<|q1 (.rcall 422 [.g 4,.l 6] 0 4 21900)<|qe))) <| r1 146 (q1 (.bin .add (.g 126) (ci 1))<|qv 126<|qe))
def c529 : C := rs 0 (qB 1 0<|qE 2<|qz 3 0<|qe) <| i1 11 (qb 1 36<|qc 341<|qN<|qe) 13 (rs 0 (qE 2<|qz 3 1<|qe) .ret) <| rs 4 (q3 (.allo [.nslice 1] 10400)<|qe) <| rs 14 (qr 1 0<|qr 1 1<|qr 1 2<|qr 1 3<|qr 1 4<|qr 1 5<|qr 1 6<|qr 1 7<|qr 1 8<|q1 (.mks 1 9 [.int .i64 0] [(0,.l 1),(1,.l 3),(2,.l 5),(3,.l 7),(4,.l 9),(5,.l 11),(6,.l 13),(7,.l 15),(8,.l 17)])<|q1 (.rcall 422 [.g 4,.l 18] 0 4 20000)<|qe) <| rs 34 (qR 1 9 3<|q1 (.mks 3 1 z_3 [(0,.l 1)])<|q1 (.rcall 421 [.g 4,.l 2] 0 4 20100)<|qe) <| rs 38 (qr 1 12<|q1 (.mks 1 1 [.str []] [(0,.l 1)])<|q1 (.rcall 457 [.g 4,.l 2] 0 4 20200)<|qe) <| rt 42 (qR 1 13 12<|qR 1 25 9<|qG 5 z_24<|qG 6 z_9<|qs 5 12 4 1<|qs 6 9 5 3<|qe) <| rs 46 (qr 5 0<|qr 5 1<|qr 5 2<|q1 (.mks 1 3 [.int .i64 0] [(0,.l 1),(1,.l 3),(2,.l 5)])<|q1 (.rcall 422 [.g 4,.l 6] 0 4 20300)<|qe) <| rs 54 (qr 5 3<|qr 5 4<|q1 (.mks 1 2 [.str []] [(0,.l 1),(1,.l 3)])<|q1 (.rcall 457 [.g 4,.l 4] 0 4 20400)<|qe) <| rs 60 (qr 5 5<|q1 (.rcall 458 [.g 4,.l 1] 0 4 20500)<|qe) <| rs 63 (qr 5 6<|q1 (.mks 1 1 [.str []] [(0,.l 1)])<|q1 (.rcall 457 [.g 4,.l 2] 0 4 20600)<|qe) <| rs 67 (qR 5 7 3<|q1 (.mks 3 1 z_3 [(0,.l 1)])<|q1 (.rcall 421 [.g 4,.l 2] 0 4 20700)<|qe) <| rs 71 (qr 5 10<|q1 (.mks 1 1 [.str []] [(0,.l 1)])<|q1 (.rcall 457 [.g 4,.l 2] 0 4 20800)<|qe) <| rs 75 (qr 5 11<|qr 6 0<|q1 (.mks 1 2 [.int .i64 0] [(0,.l 1),(1,.l 3)])<|q1 (.rcall 422 [.g 4,.l 4] 0 4 20900)<|qe) <| rs 81 (qR 6 1 3<|q1 (.mks 3 1 z_3 [(0,.l 1)])<|q1 (.rcall 421 [.g 4,.l 2] 0 4 21000)<|qe) <| rs 85 (qr 6 4<|q1 (.rcall 458 [.g 4,.l 1] 0 4 21100)<|qe) <| rs 88 (qr 6 5<|q1 (.mks 1 1 [.str []] [(0,.l 1)])<|q1 (.rcall 457 [.g 4,.l 2] 0 4 21200)<|qe) <| rs 92 (qr 6 6<|qh false<|q1 (.mks 1 1 [.int .i64 0] [(0,.l 2)])<|q1 (.rcall 422 [.g 4,.l 3] 0 4 21300)<|qe) <| sq (rs 97 (qf 6 6<|q3 (.load (.v 6) none (.l 0))<|qH false<|q3 (.mov (ci 0))<|qe) <| bk 0 l529_0) <| rs 111 (qr 6 7<|q1 (.mks 1 1 [.str []] [(0,.l 1)])<|q1 (.rcall 457 [.g 4,.l 2] 0 4 21500)<|qe) <| rs 115 (qr 6 8<|q1 (.rcall 458 [.g 4,.l 1] 0 4 21600)<|qe) <| rs 118 (qr 1 34<|qh false<|q1 (.mks 1 1 [.int .i64 0] [(0,.l 2)])<|q1 (.rcall 422 [.g 4,.l 3] 0 4 21700)<|qe) <| sq (rs 123 (qf 1 34<|q3 (.load (.v 1) none (.l 0))<|qH false<|q3 (.mov (ci 0))<|qe) <| bk 2 l529_1) <| rs 147 (qr 1 35<|qh false<|q1 (.mks 1 1 [.int .i64 0] [(0,.l 2)])<|q1 (.rcall 422 [.g 4,.l 3] 0 4 22000)<|qe) <| rs 152 (qr 1 35<|q1 (.rcall 422 [.g 4,.l 1] 0 4 22100)<|qe) <| rs 155 (qr 4 0<|q1 (.b2s (.l 1))<|qv 2<|qz 3 0<|qe) .ret
def F529 : F := mF 1 [.t 2,.t 3] none c529
attribute [go_sem] c529 F529
def c530 : C := rs 0 (qz 2 0<|qe) <| rs 7 (qm 0<|q1 (.nilc (.l 0))<|qg 0<|ql 0<|qc 491<|q2 6 (.mov (.l 4))<|qx 0<|qy 1<|qY 5 2<|qV 3 6<|qV 4 7<|qV 5 8<|qe) <| rs 15 (qm 0<|qm 3<|qm 4<|qm 5<|q1 (.rcall 565 [.l 0,.l 1,.l 2,.l 3] 0 0 20000)<|qv 2<|qe) .ret
def F530 : F := mF 1 [.t 2] none c530
attribute [go_sem] c530 F530
def c531 : C := rs 0 (qz 2 0<|qe) <| rs 4 (qm 0<|q1 (.rcall 530 [.l 0] 0 0 20000)<|qv 3<|qe) <| i1 6 (qm 3<|qm 0<|q1 (.nilc (.l 1))<|qg 0<|ql 0<|qh true<|qQ .gtr 0<|qe) 12 (rs 13 (qm 0<|q1 (.nilc (.l 0))<|qg 1<|q5 (.store (.v 0) 1 (.l 2) (cb true))<|qe) <| rs 0 (qz 2 0<|qe) .ret) <| rs 16 (qm 3<|qv 2<|qe) .ret
def F531 : F := mF 1 [.t 2] none c531
attribute [go_sem] c531 F531
def l532_0 : C := .loop [] [] [6] [] (rs 29 (q3 (.bin .lss (.g 28) (.g 27))<|qe) <| sq (cd 29 .skip <| .exit 0) <| sq (bk 1 (rs 31 (qm 0<|q1 (.rcall 539 [.l 0] 0 0 20800)<|q1 (.call (.k 566) .freeze none [.l 1])<|q2 30 (.mov (.l 2))<|qx 0<|qy 1<|qG 6 z_17<|qs 6 36 6 4<|qV 7 5<|qe) <| rs 36 (qm 0<|qm 0<|q1 (.nilc (.l 1))<|qg 1<|ql 0<|yo<|qm 7<|qk .neq 0<|zo 5<|q1 (.nilc (.l 0))<|qg 1<|qs 0 1 10 8<|qe) <| r1 47 (qr 5 8<|qb 6 36<|q1 (.mks 36 1 z_17 [(0,.l 2)])<|q1 (.app 51 36 (.l 1) (.l 3))<|qf 5 8<|qs 5 1 5 4<|qe))) <| r1 53 (q1 (.bin .add (.g 28) (ci 1))<|qv 28<|qe))
def c532 : C := rs 0 (qG 4 z_19<|qe) <| rs 8 (qm 0<|q1 (.rcall 530 [.l 0] 0 0 20000)<|q1 (.build [.int .i64 0,.int .i64 0,.int .i64 0,.slice 1 [],.int .i64 0,.str [],.str [],.slice 1 [],.nslice 36] [(0,1,.l 1)])<|qG 5 z_28<|qs 5 9 3 2<|qe) <| rs 11 (qm 1<|qm 0<|q1 (.rcall 530 [.l 1] 0 0 20100)<|qm 0<|q1 (.rcall 540 [.l 3] 0 0 20200)<|qm 0<|q1 (.rcall 530 [.l 5] 0 0 20300)<|qm 0<|q1 (.rcall 539 [.l 7] 0 0 20400)<|qm 0<|q1 (.rcall 539 [.l 9] 0 0 20500)<|qm 0<|q1 (.rcall 540 [.l 11] 0 0 20600)<|q1 (.build z_5 [(0,1,.l 0),(1,1,.l 2),(2,1,.l 4),(3,1,.l 6),(4,1,.l 8),(5,1,.l 10),(6,1,.l 12)])<|qf 5 1<|qs 5 7 14 13<|qe) <| sq (rs 26 (qm 0<|q3 (.rcall 531 [.l 0] 0 0 20700)<|q3 (.mov (ci 0))<|qe) <| bk 0 l532_0) <| rs 54 (qb 5 9<|qt 4 9 0<|qe) .ret
def F532 : F := mF 2 [.cell 4 (some 9)] none c532
attribute [go_sem] c532 F532
def c533 : C := rs 0 (qE 2<|qe) <| rs 6 (qm 0<|qc 487<|q2 5 (.mov (.l 1))<|qx 0<|qy 1<|qw 3<|qD 4<|q1 (.mov (.l 4))<|qe) <| rs 10 (qm 3<|qv 2<|qe) .ret
def F533 : F := mF 1 [.t 2] none c533
attribute [go_sem] c533 F533
def l534_0 : C := .loop [] [] [] [] (lq 8 (qm 4<|qm 0<|qh false<|qQ .lss 0<|qe) 11 0 <| sq (bk 1 (r1 14 (qm 3<|qm 0<|qm 4<|qi 1<|qj<|qc 533<|qq .add 0<|qv 3<|qe))) <| r1 12 (qm 4<|qk .add 1<|qv 4<|qe))
def c534 : C := rs 0 (qE 2<|qe) <| rs 5 (qm 0<|qh false<|qc 533<|qv 3<|qe) <| sq (rs 0 (qz 4 0<|qe) <| bk 0 l534_0) <| rs 21 (qm 3<|qv 2<|qe) .ret
def F534 : F := mF 1 [.t 2] none c534
attribute [go_sem] c534 F534
def c535 : C := rs 0 (qE 2<|qe) <| rs 3 (qm 0<|qc 503<|qv 2<|qe) .ret
def F535 : F := mF 1 [.t 2] none c535
attribute [go_sem] c535 F535
def l536_0 : C := .loop [] [] [] [] (lq 120 (qm 6<|qr 4 6<|qh false<|qQ .lss 0<|qe) 124 0 <| sq (bk 1 (r2 127 (qm 5<|qr 4 6<|qm 6<|qi 2<|qg 0<|qj<|qc 488<|qq .add 0<|qr 4 6<|qm 6<|qi 2<|qg 1<|qj<|qc 488<|qq .add 8<|qv 5<|qe))) <| r1 125 (qm 6<|qk .add 1<|qv 6<|qe))
def l536_1 : C := .loop [] [] [8] [] (lq 158 (qm 7<|qr 1 34<|qh false<|qQ .lss 0<|qe) 162 2 <| sq (bk 3 (rs 165 (qr 1 34<|qm 7<|qi 5<|qJ 5<|qG 8 z_0<|qs 8 5 5 4<|qe) <| r2 170 (qm 5<|qf 8 0<|qg 0<|ql 8<|qc 488<|qq .add 0<|qf 8 0<|qg 1<|ql 8<|qc 488<|qq .add 5<|qr 8 2<|qc 460<|qq .add 10<|qr 8 3<|qc 460<|qq .add 14<|qr 8 4<|qc 460<|qq .add 18<|qv 5<|qe))) <| r1 163 (qm 7<|qk .add 1<|qv 7<|qe))
def l536_2 : C := .loop [] [] [] [] (lq 199 (qm 9<|qr 1 35<|qh false<|qQ .lss 0<|qe) 203 4 <| sq (bk 5 (r1 206 (qm 5<|qr 1 35<|qm 9<|qi 1<|qj<|qc 460<|qq .add 0<|qv 5<|qe))) <| r1 204 (qm 9<|qk .add 1<|qv 9<|qe))
def c536 : C := rs 0 (qB 1 0<|qE 2<|qe) <| rt 10 (qR 1 13 12<|qR 1 25 9<|qG 3 z_24<|qG 4 z_9<|qs 3 12 4 1<|qs 4 9 5 3<|qe) <| rt 14 (qr 1 0<|qc 460<|qr 1 1<|qc 460<|qq .add 2<|qr 1 2<|qc 460<|qq .add 6<|qr 1 3<|qc 460<|qq .add 10<|qr 1 4<|qc 460<|qq .add 14<|qr 1 5<|qc 460<|qq .add 18<|qr 1 6<|qc 460<|qq .add 22<|qr 1 7<|qc 460<|qq .add 26<|qr 1 8<|qc 460<|qq .add 30<|qR 1 9 3<|qc 459<|qq .add 34<|qr 1 12<|qc 488<|qq .add 38<|qv 5<|qe) <| rt 57 (qm 5<|qr 3 0<|qc 460<|qq .add 0<|qr 3 1<|qc 460<|qq .add 4<|qr 3 2<|qc 460<|qq .add 8<|qr 3 3<|qc 488<|qq .add 12<|qr 3 4<|qc 488<|qq .add 16<|qr 3 5<|qc 489<|qq .add 20<|qr 3 6<|qc 488<|qq .add 24<|qR 3 7 3<|qc 459<|qq .add 28<|qr 3 10<|qc 488<|qq .add 32<|qr 3 11<|qc 460<|qq .add 36<|qv 5<|qe) <| rt 98 (qm 5<|qr 4 0<|qc 460<|qq .add 0<|qR 4 1 3<|qc 459<|qq .add 4<|qr 4 4<|qc 489<|qq .add 8<|qr 4 5<|qc 488<|qq .add 12<|qr 4 6<|qh false<|qc 460<|qq .add 16<|qv 5<|qe) <| sq (rs 0 (qz 6 0<|qe) <| bk 0 l536_0) <| rt 144 (qm 5<|qr 4 7<|qc 488<|qq .add 0<|qr 4 8<|qc 489<|qq .add 4<|qr 1 34<|qh false<|qc 460<|qq .add 8<|qv 5<|qe) <| sq (rs 0 (qz 7 0<|qe) <| bk 2 l536_1) <| rs 193 (qm 5<|qr 1 35<|qh false<|qc 460<|qq .add 0<|qv 5<|qe) <| sq (rs 0 (qz 9 0<|qe) <| bk 4 l536_2) <| rs 214 (qm 5<|qv 2<|qe) .ret
def F536 : F := mF 1 [.t 2] none c536
attribute [go_sem] c536 F536
def l537_0 : C := .loop [] [0,0,9000] [5] [] (rs 11 (q3 (.bin .lss (.g 10) (.g 9))<|qe) <| sq (cd 11 .skip <| .exit 0) <| sq (bk 1 (rs 12 (q1 (.iad 3 (.g 8) (.g 10))<|qJ 3<|qG 5 z_3<|qs 5 3 2 1<|qe) <| rs 15 (qb 5 3<|qc 455<|q2 14 (.mov (.l 1))<|qx 0<|qy 1<|qw 6<|qD 7<|q1 (.mov (.l 4))<|qe) <| r1 19 (qm 0<|qm 0<|q1 (.nilc (.l 1))<|qg 0<|ql 0<|qm 6<|q1 (.appd 1 (.l 4) (.l 5))<|q1 (.nilc (.l 0))<|qg 0<|qs 0 1 8 6<|qe))) <| r1 28 (q1 (.bin .add (.g 10) (ci 1))<|qv 10<|qe))
def c537 : C := rs 8 (q3 (.mov (.g 1))<|qH false<|q3 (.mov (ci 0))<|qe) <| bk 0 l537_0
def F537 : F := mF 2 [] none c537
attribute [go_sem] c537 F537
def c538 : C := rs 0 (qB 3 1<|qe) <| rs 4 (qm 0<|qr 3 0<|qr 3 1<|qr 3 2<|qr 3 3<|qr 3 4<|qr 3 5<|qr 3 6<|qr 3 7<|q1 (.mks 1 8 [.int .i64 0] [(0,.l 2),(1,.l 4),(2,.l 6),(3,.l 8),(4,.l 10),(5,.l 12),(6,.l 14),(7,.l 16)])<|q1 (.rcall 526 [.l 0,.l 17] 0 0 20000)<|qe) <| rs 23 (qm 0<|qr 3 8<|q1 (.mks 1 1 [.str []] [(0,.l 2)])<|q1 (.rcall 528 [.l 0,.l 3] 0 0 20100)<|qe) <| rs 28 (qm 0<|qr 3 9<|qh false<|q1 (.mks 1 1 [.int .i64 0] [(0,.l 3)])<|q1 (.rcall 526 [.l 0,.l 4] 0 0 20200)<|qe) <| rs 34 (qm 0<|qr 3 9<|q1 (.rcall 528 [.l 0,.l 2] 0 0 20300)<|qe) <| rs 38 (qm 0<|qr 3 10<|qr 3 11<|qr 3 12<|q1 (.mks 1 3 [.int .i64 0] [(0,.l 2),(1,.l 4),(2,.l 6)])<|q1 (.rcall 526 [.l 0,.l 7] 0 0 20400)<|qe) <| rs 47 (qm 0<|qf 3 13<|qg 0<|ql 3<|qf 3 13<|qg 1<|ql 3<|q1 (.mks 1 2 [.str []] [(0,.l 3),(1,.l 6)])<|q1 (.rcall 528 [.l 0,.l 7] 0 0 20500)<|qe) <| rs 56 (qm 0<|qr 3 15<|q1 (.rcall 527 [.l 0,.l 2] 0 0 20600)<|qe) <| rs 60 (qm 0<|qR 3 16 3<|q1 (.mks 3 1 z_3 [(0,.l 2)])<|q1 (.rcall 537 [.l 0,.l 3] 0 0 20700)<|qe) <| r1 65 (qm 0<|qr 3 19<|q1 (.rcall 527 [.l 0,.l 2] 0 0 20800)<|qe)
def F538 : F := mF 2 [] none c538
attribute [go_sem] c538 F538
def c539 : C := rs 0 (qE 2<|qe) <| rs 7 (qm 0<|q1 (.nilc (.l 0))<|qg 0<|ql 0<|qc 506<|q2 6 (.mov (.l 4))<|qx 0<|qy 1<|qY 5 2<|qV 3 6<|qV 4 7<|qV 5 8<|qe) <| rs 15 (qm 0<|qm 3<|qm 4<|qm 5<|q1 (.rcall 567 [.l 0,.l 1,.l 2,.l 3] 0 0 20000)<|qv 2<|qe) .ret
def F539 : F := mF 1 [.t 2] none c539
attribute [go_sem] c539 F539
def l540_0 : C := .loop [] [] [] [] (rs 7 (q3 (.bin .lss (.g 6) (.g 5))<|qe) <| sq (cd 7 .skip <| .exit 0) <| sq (bk 1 (r1 8 (qm 3<|qm 0<|q1 (.rcall 530 [.l 1] 0 0 20100)<|q1 (.mks 1 1 [.int .i64 0] [(0,.l 2)])<|q1 (.app 3 1 (.l 0) (.l 3))<|qv 3<|qe))) <| r1 13 (q1 (.bin .add (.g 6) (ci 1))<|qv 6<|qe))
def c540 : C := rs 0 (qS 2 1<|qe) <| rs 3 (q3 (.mko 1)<|qe) <| sq (rs 4 (qm 0<|q3 (.rcall 531 [.l 0] 0 0 20000)<|q3 (.mov (ci 0))<|qe) <| bk 0 l540_0) <| rs 14 (qm 3<|qv 2<|qe) .ret
def F540 : F := mF 1 [.t 2] none c540
attribute [go_sem] c540 F540
def c541 : C := rs 0 (qF 2<|qe) <| rs 7 (qm 0<|q1 (.nilc (.l 0))<|qg 0<|ql 0<|qc 507<|q2 6 (.mov (.l 4))<|qx 0<|qy 1<|qY 5 2<|qV 3 6<|qV 4 7<|qV 5 8<|qe) <| rs 15 (qm 0<|qm 3<|qm 4<|qm 5<|q1 (.rcall 568 [.l 0,.l 1,.l 2,.l 3] 0 0 20000)<|qv 2<|qe) .ret
def F541 : F := mF 1 [.t 2] none c541
attribute [go_sem] c541 F541
def c542 : C := rs 0 (qG 2 z_3<|qe) <| rs 7 (qm 0<|q1 (.nilc (.l 0))<|qg 0<|ql 0<|qc 490<|q2 6 (.mov (.l 4))<|qx 0<|qy 1<|qY 5 2<|qG 3 z_3<|qs 3 3 9 6<|qV 4 7<|qV 5 8<|qe) <| rs 15 (qm 0<|qb 3 3<|qm 4<|qm 5<|q1 (.rcall 569 [.l 0,.l 1,.l 2,.l 3] 0 0 20000)<|qt 2 3 4<|qe) .ret
def F542 : F := mF 1 [.cell 2 (some 3)] none c542
attribute [go_sem] c542 F542
def l543_0 : C := .loop [] [] [] [] (rs 34 (q3 (.bin .lss (.g 33) (.g 32))<|qe) <| sq (cd 34 .skip <| .exit 0) <| sq (bk 1 (r2 35 (qr 3 9<|qm 0<|q1 (.rcall 539 [.l 2] 0 0 21000)<|q1 (.mks 1 1 [.str []] [(0,.l 3)])<|q1 (.app 40 1 (.l 1) (.l 4))<|qf 3 9<|qs 3 1 6 5<|qe))) <| r1 42 (q1 (.bin .add (.g 33) (ci 1))<|qv 33<|qe))
def c543 : C := rs 0 (qG 2 z_16<|qe) <| rs 0 (qG 3 z_29<|qe) <| rs 4 (qm 0<|q1 (.rcall 530 [.l 0] 0 0 20000)<|qm 0<|q1 (.rcall 530 [.l 2] 0 0 20100)<|qm 0<|q1 (.rcall 530 [.l 4] 0 0 20200)<|qm 0<|q1 (.rcall 530 [.l 6] 0 0 20300)<|qf 3 0<|qs 3 1 8 1<|qf 3 1<|qs 3 1 10 3<|qf 3 2<|qs 3 1 12 5<|qf 3 3<|qs 3 1 14 7<|qe) <| rs 16 (qm 0<|q1 (.rcall 530 [.l 0] 0 0 20400)<|qm 0<|q1 (.rcall 530 [.l 2] 0 0 20500)<|qm 0<|q1 (.rcall 530 [.l 4] 0 0 20600)<|qm 0<|q1 (.rcall 530 [.l 6] 0 0 20700)<|qf 3 4<|qs 3 1 8 1<|qf 3 5<|qs 3 1 10 3<|qf 3 6<|qs 3 1 12 5<|qf 3 7<|qs 3 1 14 7<|qe) <| rs 28 (qm 0<|q1 (.rcall 539 [.l 0] 0 0 20800)<|qf 3 8<|qs 3 1 2 1<|qe) <| sq (rs 31 (qm 0<|q3 (.rcall 531 [.l 0] 0 0 20900)<|q3 (.mov (ci 0))<|qe) <| bk 0 l543_0) <| rs 43 (qm 0<|q1 (.rcall 530 [.l 0] 0 0 21100)<|qm 0<|q1 (.rcall 530 [.l 2] 0 0 21200)<|qm 0<|q1 (.rcall 530 [.l 4] 0 0 21300)<|qf 3 10<|qs 3 1 6 1<|qf 3 11<|qs 3 1 8 3<|qf 3 12<|qs 3 1 10 5<|qe) <| rs 52 (qm 0<|q1 (.rcall 539 [.l 0] 0 0 21400)<|qm 0<|q1 (.rcall 539 [.l 2] 0 0 21500)<|qf 3 13<|qg 0<|qs 3 1 5 1<|qf 3 13<|qg 1<|qs 3 1 8 3<|qe) <| rs 60 (qm 0<|q1 (.rcall 540 [.l 0] 0 0 21600)<|qm 0<|q1 (.rcall 542 [.l 2] 0 0 21700)<|qm 0<|q1 (.rcall 540 [.l 4] 0 0 21800)<|qf 3 15<|qs 3 1 6 1<|qf 3 16<|qs 3 3 8 3<|qf 3 19<|qs 3 1 10 5<|qe) <| rs 69 (qb 3 20<|qt 2 20 0<|qe) .ret
def F543 : F := mF 1 [.cell 2 (some 20)] none c543
attribute [go_sem] c543 F543
def c544 : C := rs 0 (qB 1 0<|qE 2<|qe) <| rs 3 (qb 1 3<|qc 486<|qv 2<|qe) .ret
def F544 : F := mF 1 [.t 2] none c544
attribute [go_sem] c544 F544
def c553 : C := rs 0 (qB 1 0<|qE 2<|qe) <| rs 6 (qR 1 0 29<|qc 516<|q2 5 (.mov (.l 2))<|qx 0<|qy 1<|qw 3<|qD 4<|q1 (.mov (.l 5))<|qe) <| rs 11 (qm 3<|qv 2<|qe) .ret
def F553 : F := mF 1 [.t 2] none c553
attribute [go_sem] c553 F553
def c554 : C := rs 0 (qB 1 0<|qE 2<|qe) <| rs 6 (qR 1 0 2<|qc 511<|q2 5 (.mov (.l 2))<|qx 0<|qy 1<|qw 3<|qD 4<|q1 (.mov (.l 5))<|qe) <| rs 11 (qm 3<|qv 2<|qe) .ret
def F554 : F := mF 1 [.t 2] none c554
attribute [go_sem] c554 F554
def c555 : C := rs 0 (qB 2 0<|qG 4 z_30<|qz 5 0<|qe) <| rs 9 (qm 1<|qc 570<|q2 8 (.mov (.l 1))<|qx 0<|qy 1<|qw 6<|qw 7<|qe) <| i1 13 (qm 7<|qK .neq 0<|qe) 14 (rs 15 (qb 2 5<|qm 7<|qt 4 5 0<|qw 5<|qe) .ret) <| sq (rs 18 (qb 2 5<|qm 6<|qd 571<|q2 17 (.mov (.l 2))<|qx 0<|qy 1<|qt 2 5 4<|qw 7<|qe) <| rs 23 (qm 7<|qK .neq 0<|qe) <| cd 24 (rs 25 (qb 2 5<|qm 7<|qt 4 5 0<|qw 5<|qe) .ret) .skip) <| rs 27 (qb 2 5<|qc 572<|qx 0<|qy 1<|qt 4 5 2<|qw 5<|qe) .ret
def F555 : F := mF 2 [.cell 4 (some 5),.t 5] none c555
attribute [go_sem] c555 F555
def c556 : C := rs 0 (qB 1 0<|qF 2<|qe) <| i1 3 (qr 1 0<|qk .lss 0<|yo<|qr 1 0<|qk .gtr 3<|zo 3<|yo<|qR 1 1 5<|qc 573<|qn<|zo 8<|yo<|qb 1 38<|qc 574<|qn<|zO 14<|qe) 21 (rs 0 (qF 2<|qe) .ret) <| i1 22 (qr 1 0<|qK .eql 0<|qe) 24 (rs 25 (qR 1 8 29<|qc 328<|qv 2<|qe) .ret) <| rs 28 (qf 1 6<|qg 0<|ql 1<|qr 1 0<|qq .eql 2<|ya<|qR 1 6 2<|qc 408<|za 6<|qv 2<|qe) .ret
def F556 : F := mF 1 [.t 2] none c556
attribute [go_sem] c556 F556
def c557 : C := rs 0 (qB 2 0<|qG 4 z_30<|qe) <| i1 5 (qb 2 5<|q3 (.call (.k 573) .no none [.l 0])<|qe) 6 (r1 7 (qm 1<|qk .geq 0<|qm 1<|q1 (.mm true (.l 2) (ci 0))<|q1 (.mm false (.l 3) (ci 1099511627776))<|qf 2 3<|qs 2 1 5 1<|qf 2 2<|qs 2 1 7 4<|qe)) <| rs 14 (qb 2 5<|qt 4 5 0<|qe) .ret
def F557 : F := mF 2 [.cell 4 (some 5)] none c557
attribute [go_sem] c557 F557
def c558 : C := rs 0 (qB 1 0<|qz 2 0<|qe) <| sq (bk 0 (rs 4 (qb 1 38<|qc 556<|qn<|qv 3<|qe) <| cd 3 (rs 0 (qz 2 1<|qe) .ret) <| rs 8 (qr 1 37<|qn<|qv 7<|qe) <| cd 7 (rs 0 (qz 2 16<|qe) .ret) .skip)) <| rs 0 (qz 2 0<|qe) .ret
def F558 : F := mF 1 [.t 2] none c558
attribute [go_sem] c558 F558
def c562 : C := rs 0 (qB 3 0<|qG 6 z_31<|qS 7 36<|qz 8 0<|qe) <| i1 9 (qm 2<|qK .neq 0<|qe) 10 (rs 11 (qb 3 38<|qm 2<|qt 6 38 0<|qS 7 36<|qV 8 1<|qe) .ret) <| rs 13 (qb 3 38<|qm 1<|qt 6 38 0<|qw 7<|qz 8 0<|qe) .ret
def F562 : F := mF 3 [.cell 6 (some 38),.t 7,.t 8] none c562
attribute [go_sem] c562 F562
def c563 : C := rs 0 (qB 2 0<|qG 4 z_30<|qe) <| i1 5 (qb 2 5<|qc 573<|qN<|qe) 7 (rs 8 (qb 2 5<|qt 4 5 0<|qe) .ret) <| rt 9 (qr 2 0<|qr 2 1<|qm 1<|q1 (.mm true (.l 4) (ci 0))<|qr 2 1<|qh true<|q1 (.mm false (.l 5) (.l 8))<|q1 (.sl true 0 (.l 3) none (some (.l 9)))<|qq .add 1<|q1 (.build z_30 [(0,1,.l 11)])<|qt 4 5 12<|qe) .ret
def F563 : F := mF 2 [.cell 4 (some 5)] none c563
attribute [go_sem] c563 F563
def c564 : C := rs 0 (qB 1 0<|qG 2 z_30<|qS 3 1<|qz 4 0<|qe) <| rs 10 (qb 1 5<|qc 577<|q2 9 (.mov (.l 1))<|qx 0<|qy 1<|qw 5<|qw 6<|qe) <| i1 14 (qm 6<|qK .neq 0<|qe) 15 (rs 16 (qb 1 5<|qm 6<|qt 2 5 0<|qS 3 1<|qV 4 1<|qe) .ret) <| rs 19 (qm 5<|qc 578<|q2 18 (.mov (.l 1))<|qx 0<|qy 1<|qw 7<|qw 8<|qe) <| i1 23 (qm 8<|qm 5<|qh true<|qQ .lss 0<|qe) 26 (rs 28 (qb 1 5<|qm 8<|qd 579<|q2 27 (.mov (.l 2))<|qx 0<|qy 1<|qt 1 5 4<|qw 6<|qe) <| rs 33 (qm 6<|qK .neq 0<|qe) <| cd 34 (rs 35 (qb 1 5<|qm 6<|qt 2 5 0<|qS 3 1<|qV 4 1<|qe) .ret) .skip) <| rs 37 (qb 1 5<|qm 7<|qt 2 5 0<|qw 3<|qz 4 0<|qe) .ret
def F564 : F := mF 1 [.cell 2 (some 5),.t 3,.t 4] none c564
attribute [go_sem] c564 F564
def c565 : C := rs 0 (qz 8 0<|qe) <| rs 0 (qz 9 0<|qe) <| i1 10 (qm 0<|q1 (.nilc (.l 0))<|qg 1<|ql 0<|yo<|qm 3<|qk .neq 0<|zO 4<|qe) 17 (rs 18 (qm 0<|q1 (.nilc (.l 0))<|qg 1<|q5 (.store (.v 0) 1 (.l 2) (cb true))<|qe) <| rs 21 (qm 9<|qv 8<|qe) .ret) <| rs 22 (qm 0<|qm 2<|q1 (.nilc (.l 0))<|qg 0<|qs 0 1 3 1<|qe) <| rs 26 (qm 1<|qv 8<|qe) .ret
def F565 : F := mF 4 [.t 8] none c565
attribute [go_sem] c565 F565
def l566_0 : C := .loop [] [] [] [] (rs 90 (q3 (.bin .lss (.g 89) (.g 88))<|qe) <| sq (cd 90 .skip <| .exit 0) <| sq (bk 1 (r2 91 (qr 7 6<|qm 4<|q1 (.rcall 492 [.l 2] 0 11 22600)<|qm 4<|q1 (.rcall 492 [.l 4] 0 11 22700)<|q1 (.build z_1 [(0,1,.l 3),(1,1,.l 5)])<|q1 (.mks 2 1 z_1 [(0,.l 6)])<|q1 (.app 99 2 (.l 1) (.l 7))<|qf 7 6<|qs 7 1 9 8<|qe))) <| r1 101 (q1 (.bin .add (.g 89) (ci 1))<|qv 89<|qe))
def l566_1 : C := .loop [] [] [8] [] (rs 111 (q3 (.bin .lss (.g 110) (.g 109))<|qe) <| sq (cd 111 .skip <| .exit 2) <| sq (bk 3 (rs 112 (qm 4<|q1 (.rcall 492 [.l 0] 0 11 23100)<|qm 4<|q1 (.rcall 492 [.l 2] 0 11 23200)<|q1 (.build z_1 [(0,1,.l 1),(1,1,.l 3)])<|q1 (.build z_0 [(0,2,.l 4)])<|qG 8 z_0<|qs 8 5 6 5<|qe) <| rs 118 (qm 4<|q1 (.rcall 465 [.l 0] 0 11 23300)<|qm 4<|q1 (.rcall 465 [.l 2] 0 11 23400)<|qm 4<|q1 (.rcall 465 [.l 4] 0 11 23500)<|qf 8 2<|qs 8 1 6 1<|qf 8 3<|qs 8 1 8 3<|qf 8 4<|qs 8 1 10 5<|qe) <| r1 127 (qr 5 34<|qb 8 5<|q1 (.mks 5 1 z_0 [(0,.l 2)])<|q1 (.app 131 5 (.l 1) (.l 3))<|qf 5 34<|qs 5 1 5 4<|qe))) <| r1 133 (q1 (.bin .add (.g 110) (ci 1))<|qv 110<|qe))
def l566_2 : C := .loop [] [] [] [] (rs 137 (q3 (.bin .lss (.g 136) (.g 135))<|qe) <| sq (cd 137 .skip <| .exit 4) <| sq (bk 5 (r2 138 (qr 5 35<|qm 4<|q1 (.rcall 465 [.l 2] 0 11 23700)<|q1 (.mks 1 1 [.int .i64 0] [(0,.l 3)])<|q1 (.app 143 1 (.l 1) (.l 4))<|qf 5 35<|qs 5 1 6 5<|qe))) <| r1 145 (q1 (.bin .add (.g 136) (ci 1))<|qv 136<|qe))
def c566 : C := rs 0 (qG 2 z_17<|qz 3 0<|qe) <| rs 9 (qm 0<|q1 (.build z_22 [(0,1,.l 0)])<|q1 (.box (.l 1))<|qv 4<|qe) <| rs 0 (qG 5 z_32<|qe) <| rs 0 (qG 6 z_24<|qe) <| rs 0 (qG 7 z_33<|qe) <| rs 12 (qm 4<|q1 (.rcall 465 [.l 0] 0 11 20000)<|qm 4<|q1 (.rcall 465 [.l 2] 0 11 20100)<|qm 4<|q1 (.rcall 465 [.l 4] 0 11 20200)<|qm 4<|q1 (.rcall 465 [.l 6] 0 11 20300)<|qm 4<|q1 (.rcall 465 [.l 8] 0 11 20400)<|qf 5 0<|qs 5 1 10 1<|qf 5 1<|qs 5 1 12 3<|qf 5 2<|qs 5 1 14 5<|qf 5 3<|qs 5 1 16 7<|qf 5 4<|qs 5 1 18 9<|qe) <| rs 27 (qm 4<|q1 (.rcall 465 [.l 0] 0 11 20500)<|qm 4<|q1 (.rcall 465 [.l 2] 0 11 20600)<|qm 4<|q1 (.rcall 465 [.l 4] 0 11 20700)<|qm 4<|q1 (.rcall 465 [.l 6] 0 11 20800)<|qf 5 5<|qs 5 1 8 1<|qf 5 6<|qs 5 1 10 3<|qf 5 7<|qs 5 1 12 5<|qf 5 8<|qs 5 1 14 7<|qe) <| rs 39 (qm 4<|q1 (.rcall 464 [.l 0] 0 11 20900)<|qm 4<|q1 (.rcall 492 [.l 2] 0 11 21000)<|qf 5 9<|qs 5 3 4 1<|qf 5 12<|qs 5 1 6 3<|qe) <| rs 45 (qm 4<|q1 (.rcall 465 [.l 0] 0 11 21100)<|qm 4<|q1 (.rcall 465 [.l 2] 0 11 21200)<|qm 4<|q1 (.rcall 465 [.l 4] 0 11 21300)<|qf 6 0<|qs 6 1 6 1<|qf 6 1<|qs 6 1 8 3<|qf 6 2<|qs 6 1 10 5<|qe) <| rs 54 (qm 4<|q1 (.rcall 492 [.l 0] 0 11 21400)<|qm 4<|q1 (.rcall 492 [.l 2] 0 11 21500)<|qm 4<|q1 (.rcall 493 [.l 4] 0 11 21600)<|qm 4<|q1 (.rcall 492 [.l 6] 0 11 21700)<|qf 6 3<|qs 6 1 8 1<|qf 6 4<|qs 6 1 10 3<|qf 6 5<|qs 6 1 12 5<|qf 6 6<|qs 6 1 14 7<|qe) <| rs 66 (qm 4<|q1 (.rcall 464 [.l 0] 0 11 21800)<|qm 4<|q1 (.rcall 492 [.l 2] 0 11 21900)<|qm 4<|q1 (.rcall 465 [.l 4] 0 11 22000)<|qf 6 7<|qs 6 3 6 1<|qf 6 10<|qs 6 1 8 3<|qf 6 11<|qs 6 1 10 5<|qe) <| rs 75 (qm 4<|q1 (.rcall 465 [.l 0] 0 11 22100)<|qm 4<|q1 (.rcall 464 [.l 2] 0 11 22200)<|qm 4<|q1 (.rcall 493 [.l 4] 0 11 22300)<|qm 4<|q1 (.rcall 492 [.l 6] 0 11 22400)<|qf 7 0<|qs 7 1 8 1<|qf 7 1<|qs 7 3 10 3<|qf 7 4<|qs 7 1 12 5<|qf 7 5<|qs 7 1 14 7<|qe) <| sq (rs 87 (qm 4<|q3 (.rcall 466 [.l 0] 0 11 22500)<|q3 (.mov (ci 0))<|qe) <| bk 0 l566_0) <| rs 102 (qm 4<|q1 (.rcall 492 [.l 0] 0 11 22800)<|qm 4<|q1 (.rcall 493 [.l 2] 0 11 22900)<|qf 7 7<|qs 7 1 4 1<|qf 7 8<|qs 7 1 6 3<|qe) <| sq (rs 108 (qm 4<|q3 (.rcall 466 [.l 0] 0 11 23000)<|q3 (.mov (ci 0))<|qe) <| bk 2 l566_1) <| sq (rs 134 (qm 4<|q3 (.rcall 466 [.l 0] 0 11 23600)<|q3 (.mov (ci 0))<|qe) <| bk 4 l566_2) <| rt 146 (qb 6 12<|qb 7 9<|qf 5 13<|qs 5 12 2 0<|qf 5 25<|qs 5 9 4 1<|qe) <| i1 150 (qm 4<|q1 (.nilc (.l 0))<|qg 1<|ql 11<|yo<|qm 4<|q1 (.nilc (.l 5))<|qg 0<|ql 11<|q1 (.bin .neq (.l 8) (.c (.str [])))<|zo 4<|yo<|qb 5 36<|q1 (.call (.k 341) .borrow none [.l 12])<|qn<|zO 11<|qe) 165 (rs 166 (q1 (.build z_17 [])<|qt 2 36 0<|qz 3 3<|qe) .ret) <| rs 167 (qb 5 36<|qt 2 36 0<|qz 3 0<|qe) .ret
def F566 : F := mF 1 [.cell 2 (some 36),.t 3] none c566
attribute [go_sem] c566 F566
def c567 : C := rs 0 (qE 8<|qe) <| rs 0 (qE 9<|qe) <| i1 10 (qm 0<|q1 (.nilc (.l 0))<|qg 1<|ql 0<|yo<|qm 3<|qk .neq 0<|zO 4<|qe) 17 (rs 18 (qm 0<|q1 (.nilc (.l 0))<|qg 1<|q5 (.store (.v 0) 1 (.l 2) (cb true))<|qe) <| rs 21 (qm 9<|qv 8<|qe) .ret) <| rs 22 (qm 0<|qm 2<|q1 (.nilc (.l 0))<|qg 0<|qs 0 1 3 1<|qe) <| rs 26 (qm 1<|qv 8<|qe) .ret
def F567 : F := mF 4 [.t 8] none c567
attribute [go_sem] c567 F567
def c568 : C := rs 0 (qF 8<|qe) <| rs 0 (qF 9<|qe) <| i1 10 (qm 0<|q1 (.nilc (.l 0))<|qg 1<|ql 0<|yo<|qm 3<|qk .neq 0<|zO 4<|qe) 17 (rs 18 (qm 0<|q1 (.nilc (.l 0))<|qg 1<|q5 (.store (.v 0) 1 (.l 2) (cb true))<|qe) <| rs 21 (qm 9<|qv 8<|qe) .ret) <| rs 22 (qm 0<|qm 2<|q1 (.nilc (.l 0))<|qg 0<|qs 0 1 3 1<|qe) <| rs 26 (qm 1<|qv 8<|qe) .ret
def F568 : F := mF 4 [.t 8] none c568
attribute [go_sem] c568 F568
def c569 : C := rs 0 (qB 5 1<|qG 8 z_3<|qe) <| rs 0 (qG 9 z_3<|qe) <| i1 10 (qm 0<|q1 (.nilc (.l 0))<|qg 1<|ql 0<|yo<|qm 3<|qk .neq 0<|zO 4<|qe) 17 (rs 18 (qm 0<|q1 (.nilc (.l 0))<|qg 1<|q5 (.store (.v 0) 1 (.l 2) (cb true))<|qe) <| rs 21 (qb 9 3<|qt 8 3 0<|qe) .ret) <| rs 22 (qm 0<|qm 2<|q1 (.nilc (.l 0))<|qg 0<|qs 0 1 3 1<|qe) <| rs 26 (qb 5 3<|qt 8 3 0<|qe) .ret
def F569 : F := mF 4 [.cell 8 (some 3)] none c569
attribute [go_sem] c569 F569
def c570 : C := rs 0 (qE 2<|qz 3 0<|qe) <| i1 4 (qm 0<|qh true<|qK .gtr 1048576<|qe) 6 (rs 0 (qE 2<|qz 3 5<|qe) .ret) <| rs 7 (qm 0<|qc 484<|qc 580<|qv 2<|qz 3 0<|qe) .ret
def F570 : F := mF 1 [.t 2,.t 3] none c570
attribute [go_sem] c570 F570
def c571 : C := rs 0 (qB 2 0<|qG 4 z_30<|qz 5 0<|qe) <| sq (rs 8 (qb 2 5<|qc 581<|qv 6<|qe) <| rs 10 (qm 6<|qK .neq 0<|qe) <| cd 11 (rs 12 (qb 2 5<|qm 6<|qt 4 5 0<|qw 5<|qe) .ret) .skip) <| i1 14 (qm 1<|qh true<|qr 2 0<|qh true<|q1 (.bin .sub (ci 1048576) (.l 4))<|qr 2 1<|qh true<|qq .sub 5<|qQ .gtr 1<|qe) 24 (rs 25 (qb 2 5<|qt 4 5 0<|qz 5 6<|qe) .ret) <| rs 27 (qb 2 5<|qc 582<|q2 26 (.mov (.l 1))<|qx 0<|qy 1<|qt 2 5 3<|qw 7<|qe) <| i1 31 (qm 7<|qN<|qe) 32 (rs 33 (qb 2 5<|qt 4 5 0<|qz 5 16<|qe) .ret) <| rs 34 (qr 2 1<|qm 1<|qq .add 1<|qf 2 1<|qs 2 1 4 3<|qe) <| rs 39 (qb 2 5<|qt 4 5 0<|qz 5 0<|qe) .ret
def F571 : F := mF 2 [.cell 4 (some 5),.t 5] none c571
attribute [go_sem] c571 F571
def c572 : C := rs 0 (qB 1 0<|qG 2 z_30<|qz 3 0<|qe) <| sq (rs 6 (qb 1 5<|qc 581<|qv 4<|qe) <| rs 8 (qm 4<|qK .neq 0<|qe) <| cd 9 (rs 10 (qb 1 5<|qm 4<|qt 2 5 0<|qw 3<|qe) .ret) .skip) <| rs 13 (qb 1 5<|qc 582<|q2 12 (.mov (.l 1))<|qx 0<|qy 1<|qt 1 5 3<|qw 5<|qe) <| i1 17 (qm 5<|qN<|qe) 18 (rs 19 (qb 1 5<|qt 2 5 0<|qz 3 16<|qe) .ret) <| rs 20 (qr 1 0<|qr 1 1<|qq .add 1<|qf 1 0<|qs 1 1 5 4<|qf 1 1<|q5 (.store (.v 1) 1 (.l 7) (.c (.str [])))<|qe) <| rs 27 (qb 1 5<|qt 2 5 0<|qz 3 0<|qe) .ret
def F572 : F := mF 1 [.cell 2 (some 5),.t 3] none c572
attribute [go_sem] c572 F572
def c573 : C := rs 0 (qB 1 0<|qF 2<|qe) <| rs 3 (qr 1 0<|qh true<|qr 1 1<|qh true<|qq .add 2<|qk .leq 1048576<|ya<|qr 1 2<|qk .geq 0<|za 8<|ya<|qr 1 2<|qk .leq 1099511627776<|za 13<|ya<|qr 1 3<|yo<|qr 1 2<|qk .eql 0<|y1 18<|qo 21<|za 18<|qv 2<|qe) .ret
def F573 : F := mF 1 [.t 2] none c573
attribute [go_sem] c573 F573
def c574 : C := rs 0 (qB 1 0<|qF 2<|qe) <| i1 5 (qr 1 0<|qK .eql 0<|qe) 7 (rs 8 (qf 1 6<|qg 0<|ql 1<|qk .eql 0<|ya<|qf 1 6<|qg 1<|ql 1<|qh false<|qk .eql 0<|za 4<|qv 2<|qe) .ret) <| rs 19 (q1 (.build z_13 [])<|qG 3 z_13<|qs 3 29 1 0<|qe) <| rs 20 (qR 1 8 29<|qG 4 z_13<|qs 4 29 2 1<|qe) <| rs 22 (qr 4 0<|qh false<|qr 4 1<|qh false<|qq .add 2<|qr 4 3<|qh false<|qq .add 6<|qr 4 4<|qh false<|qq .add 10<|qr 4 28<|qh false<|qq .add 14<|qk .eql 0<|ya<|qr 4 2<|qk .eql 0<|za 20<|ya<|qR 4 5 3<|qR 3 5 3<|q1 (.eqa false [.i,.i,.i] (.l 27) (.l 29))<|za 25<|ya<|qR 4 8 20<|qc 583<|za 32<|qv 2<|qe) .ret
def F574 : F := mF 1 [.t 2] none c574
attribute [go_sem] c574 F574
def c575 : C := rs 0 (qB 2 0<|qG 4 z_30<|qz 5 0<|qe) <| rs 9 (qm 1<|qc 570<|q2 8 (.mov (.l 1))<|qx 0<|qy 1<|qw 6<|qw 7<|qe) <| i1 13 (qm 7<|qK .neq 0<|qe) 14 (rs 15 (qb 2 5<|qm 7<|qt 4 5 0<|qw 5<|qe) .ret) <| rs 17 (qb 2 5<|qm 6<|qd 584<|qx 0<|qy 1<|qt 4 5 3<|qw 5<|qe) .ret
def F575 : F := mF 2 [.cell 4 (some 5),.t 5] none c575
attribute [go_sem] c575 F575
def c577 : C := rs 0 (qB 1 0<|qE 2<|qz 3 0<|qe) <| sq (rs 5 (qb 1 5<|qc 581<|qv 4<|qe) <| rs 7 (qm 4<|qK .neq 0<|qe) <| cd 8 (rs 9 (qm 4<|qE 2<|qw 3<|qe) .ret) .skip) <| rs 10 (qr 1 0<|qr 1 1<|qq .add 1<|qv 2<|qz 3 0<|qe) .ret
def F577 : F := mF 1 [.t 2,.t 3] none c577
attribute [go_sem] c577 F577
def l578_0 : C := .loop [] [] [] [] (bk 1 (rs 11 (qm 5<|qc 585<|q2 10 (.mov (.l 1))<|qx 0<|qy 1<|qY 2 2<|qV 6 3<|qV 7 4<|qV 8 5<|qe) <| i1 16 (qm 8<|qK .neq 0<|qe) 17 (rs 18 (qm 4<|qm 0<|qh true<|qm 5<|qh true<|qq .sub 2<|qV 2 0<|qw 3<|qe) .ret) <| r1 24 (qm 4<|qm 6<|q1 (.mks 1 1 [.str []] [(0,.l 1)])<|q1 (.app 4 1 (.l 0) (.l 2))<|qm 7<|qw 4<|qw 5<|qe)))
def c578 : C := rs 0 (qS 2 1<|qz 3 0<|qe) <| rs 4 (q3 (.mko 1)<|qe) <| rs 9 (qm 0<|qv 5<|qe) <| bk 0 l578_0
def F578 : F := mF 1 [.t 2,.t 3] none c578
attribute [go_sem] c578 F578
def c579 : C := rs 0 (qB 2 0<|qG 4 z_30<|qz 5 0<|qe) <| sq (rs 8 (qb 2 5<|qc 581<|qv 6<|qe) <| rs 10 (qm 6<|qK .neq 0<|qe) <| cd 11 (rs 12 (qb 2 5<|qm 6<|qt 4 5 0<|qw 5<|qe) .ret) .skip) <| i1 14 (qm 1<|qk .lss 0<|yo<|qm 1<|qr 2 0<|qh true<|qr 2 1<|qh true<|qq .add 6<|qq .gtr 3<|zO 2<|qe) 26 (rs 27 (qb 2 5<|qt 4 5 0<|qz 5 1<|qe) .ret) <| rs 29 (qb 2 5<|qc 582<|q2 28 (.mov (.l 1))<|qx 0<|qy 1<|qt 2 5 3<|qw 7<|qe) <| i1 33 (qm 7<|qN<|qe) 34 (rs 35 (qb 2 5<|qt 4 5 0<|qz 5 16<|qe) .ret) <| rs 36 (qr 2 0<|qr 2 1<|qq .add 1<|qm 1<|q1 (.sl true 0 (.l 4) none (some (.l 5)))<|qf 2 0<|qs 2 1 7 6<|qf 2 1<|q5 (.store (.v 2) 1 (.l 9) (.c (.str [])))<|qe) <| rs 45 (qb 2 5<|qt 4 5 0<|qz 5 0<|qe) .ret
def F579 : F := mF 2 [.cell 4 (some 5),.t 5] none c579
attribute [go_sem] c579 F579
def c580 : C := rs 0 (qE 2<|qe) <| rs 4 (qm 0<|qc 586<|qv 3<|qe) <| rs 6 (qm 0<|qm 3<|q1 (.conv (.int .u8) (.l 1))<|qm 3<|q1 (.sh .shr (.l 3) (.c (.int .u64 8)))<|q1 (.conv (.int .u8) (.l 4))<|qm 3<|q1 (.sh .shr (.l 6) (.c (.int .u64 16)))<|q1 (.conv (.int .u8) (.l 7))<|qm 3<|q1 (.sh .shr (.l 9) (.c (.int .u64 24)))<|q1 (.conv (.int .u8) (.l 10))<|q1 (.mks 1 4 [.int .u8 0] [(0,.l 2),(1,.l 5),(2,.l 8),(3,.l 11)])<|q1 (.b2s (.l 12))<|qq .add 0<|qv 2<|qe) .ret
def F580 : F := mF 1 [.t 2] none c580
attribute [go_sem] c580 F580
def c581 : C := rs 0 (qB 1 0<|qz 2 0<|qe) <| sq (bk 0 (rs 4 (qb 1 5<|qc 573<|qn<|qv 3<|qe) <| cd 3 (rs 0 (qz 2 1<|qe) .ret) <| rs 8 (qr 1 4<|qv 7<|qe) <| cd 7 (rs 0 (qz 2 16<|qe) .ret) .skip)) <| rs 0 (qz 2 0<|qe) .ret
def F581 : F := mF 1 [.t 2] none c581
attribute [go_sem] c581 F581
def c582 : C := rs 0 (qB 1 0<|qG 2 z_30<|qF 3<|qe) <| sq (bk 0 (rs 5 (qr 1 3<|ya<|qr 1 2<|qk .eql 0<|za 2<|qv 4<|qe) <| cd 4 (rs 12 (qf 1 4<|q5 (.store (.v 1) 1 (.l 0) (cb true))<|qe) <| rs 13 (qb 1 5<|qt 2 5 0<|qF 3<|qe) .ret) <| rs 15 (qr 1 3<|qv 14<|qe) <| cd 14 (r1 17 (qr 1 2<|qk .sub 1<|qf 1 2<|qs 1 1 3 2<|qe)) .skip)) <| rs 21 (qb 1 5<|qt 2 5 0<|qT 3<|qe) .ret
def F582 : F := mF 1 [.cell 2 (some 5),.t 3] none c582
attribute [go_sem] c582 F582
def c583 : C := rs 0 (qB 1 0<|qF 2<|qe) <| rs 3 (qr 1 0<|qk .eql 0<|ya<|qr 1 1<|qk .eql 0<|za 3<|ya<|qr 1 2<|qk .eql 0<|za 8<|ya<|qr 1 3<|qk .eql 0<|za 13<|ya<|qr 1 4<|qk .eql 0<|za 18<|ya<|qr 1 5<|qk .eql 0<|za 23<|ya<|qr 1 6<|qk .eql 0<|za 28<|ya<|qr 1 7<|qk .eql 0<|za 33<|ya<|qr 1 8<|q1 (.bin .eql (.l 40) (.c (.str [])))<|za 38<|ya<|qr 1 9<|qh false<|qr 1 15<|qh false<|qq .add 46<|qr 1 19<|qh false<|qq .add 50<|qk .eql 0<|za 43<|ya<|qr 1 10<|qk .eql 0<|za 57<|ya<|qr 1 11<|qk .eql 0<|za 62<|ya<|qr 1 12<|qk .eql 0<|za 67<|ya<|qR 1 13 2<|q1 (.build z_1 [])<|q1 (.eqa false [.s,.s] (.l 74) (.l 75))<|za 72<|ya<|qR 1 16 3<|q1 (.build z_3 [])<|q1 (.eqa false [.i,.i,.i] (.l 80) (.l 81))<|za 78<|qv 2<|qe) .ret
def F583 : F := mF 1 [.t 2] none c583
attribute [go_sem] c583 F583
def c584 : C := rs 0 (qB 2 0<|qG 4 z_30<|qz 5 0<|qe) <| sq (rs 8 (qb 2 5<|qc 581<|qv 6<|qe) <| rs 10 (qm 6<|qK .neq 0<|qe) <| cd 11 (rs 12 (qb 2 5<|qm 6<|qt 4 5 0<|qw 5<|qe) .ret) .skip) <| i1 14 (qm 1<|qh true<|qK .gtr 1048576<|qe) 16 (rs 17 (qb 2 5<|qt 4 5 0<|qz 5 6<|qe) .ret) <| rs 19 (qb 2 5<|qc 582<|q2 18 (.mov (.l 1))<|qx 0<|qy 1<|qt 2 5 3<|qw 7<|qe) <| i1 23 (qm 7<|qN<|qe) 24 (rs 25 (qb 2 5<|qt 4 5 0<|qz 5 16<|qe) .ret) <| rs 26 (qm 1<|qf 2 0<|qs 2 1 1 0<|qf 2 1<|q5 (.store (.v 2) 1 (.l 3) (.c (.str [])))<|qe) <| rs 29 (qb 2 5<|qt 4 5 0<|qz 5 0<|qe) .ret
def F584 : F := mF 2 [.cell 4 (some 5),.t 5] none c584
attribute [go_sem] c584 F584
def c585 : C := rs 0 (qE 2<|qE 3<|qz 4 0<|qe) <| rs 12 (qm 0<|qc 491<|q2 11 (.mov (.l 1))<|qx 0<|qy 1<|qY 2 2<|qV 5 3<|qV 6 4<|qV 7 5<|qe) <| sq (bk 0 (rs 18 (qm 7<|qk .neq 0<|qv 17<|qe) <| cd 17 (rs 20 (qm 7<|qE 2<|qE 3<|qV 4 0<|qe) .ret) <| rs 22 (qm 5<|qk .gtr 1048576<|qv 21<|qe) <| cd 21 (rs 0 (qE 2<|qE 3<|qz 4 3<|qe) .ret) <| rs 25 (qm 6<|qh true<|qm 5<|qk .add 4<|qq .lss 1<|qv 24<|qe) <| cd 24 (rs 0 (qE 2<|qE 3<|qz 4 2<|qe) .ret) .skip)) <| rs 30 (qm 0<|qh true<|qm 6<|qh true<|qq .sub 1<|qm 5<|qq .add 4<|qk .add 4<|qv 8<|qe) <| sq (rs 39 (qm 0<|qm 8<|q1 (.sl true 0 (.l 0) none (some (.l 1)))<|qc 587<|q2 38 (.mov (.l 3))<|qx 0<|qy 1<|qD 9<|q1 (.mov (.l 5))<|q3 (.mov (.l 6))<|qe) <| rs 45 (qm 10<|qK .neq 0<|qe) <| cd 46 (rs 47 (qm 10<|qE 2<|qE 3<|qV 4 0<|qe) .ret) .skip) <| rt 48 (qm 6<|qm 5<|q1 (.sl true 0 (.l 0) none (some (.l 1)))<|qm 0<|qm 8<|q1 (.sl true 0 (.l 3) (some (.l 4)) none)<|qV 2 2<|qw 3<|qz 4 0<|qe) .ret
def F585 : F := mF 1 [.t 2,.t 3,.t 4] none c585
attribute [go_sem] c585 F585
def r586_8 : List Op := (qm 3<|q1 (.sh .shr (.l 0) (.c (.int .u64 1)))<|qm 3<|q1 (.bin .and (.l 2) (.c (.int .u32 1)))<|q1 (.un .neg (.l 3))<|q1 (.bin .and (.c (.int .u32 2197175160)) (.l 4))<|qq .xor 1<|qv 3<|qe) 18 0 none
def b586_1 : C := rs 17 (q3 (.bin .lss (.g 16) (ci 8))<|qe) <| sq (cd 17 .skip <| .exit 2) <| sq (bk 3 (.region false r586_8)) <| r1 25 (q1 (.bin .add (.g 16) (ci 1))<|qv 16<|qe)
def l586_1 : C := .loop [] [] [] [] b586_1
def l586_0 : C := .loop [] [] [] [] (rs 8 (q3 (.bin .lss (.g 7) (.g 6))<|qe) <| sq (cd 8 .skip <| .exit 0) <| sq (bk 1 (rs 9 (qm 7<|qv 4<|qe) <| rs 10 (qm 3<|qm 0<|qm 4<|q1 (.idx (.l 1) (.l 2))<|q1 (.conv (.int .u32) (.l 3))<|qq .xor 0<|qv 3<|qe) <| rs 0 (qz 16 0<|qe) <| bk 2 l586_1)) <| r1 26 (q1 (.bin .add (.g 7) (ci 1))<|qv 7<|qe))
def c586 : C := rs 2 (q3 (.mov (.c (.int .u32 0)))<|qe) <| rs 3 (q3 (.mov (.c (.int .u32 4294967295)))<|qe) <| sq (rs 5 (qm 0<|qH true<|q3 (.mov (ci 0))<|qe) <| bk 0 l586_0) <| rs 27 (qm 3<|q1 (.un .xor (.l 0))<|qv 2<|qe) .ret
def F586 : F := mF 1 [.t 2] none c586
attribute [go_sem] r586_8 b586_1 c586 F586
def c587 : C := rs 0 (qE 2<|qz 3 0<|qe) <| rs 5 (qm 0<|qh true<|qk .sub 4<|qv 4<|qe) <| sq (bk 0 (rs 9 (qm 4<|qk .lss 0<|qv 8<|qe) <| cd 8 (rs 0 (qE 2<|qz 3 2<|qe) .ret) <| rs 12 (qm 0<|qm 4<|q1 (.sl true 0 (.l 0) none (some (.l 1)))<|qc 580<|qm 0<|qq .neq 3<|qv 11<|qe) <| cd 11 (rs 0 (qE 2<|qz 3 4<|qe) .ret) .skip)) <| rs 18 (qm 0<|qm 4<|q1 (.sl true 0 (.l 0) none (some (.l 1)))<|qv 2<|qz 3 0<|qe) .ret
def F587 : F := mF 1 [.t 2,.t 3] none c587
attribute [go_sem] c587 F587
def c588 : C := rs 0 (qB 1 0<|qF 2<|qe) <| rs 8 (q0 589<|qG 3 z_34<|qs 3 4 1 0<|qe) <| i1 9 (qb 1 21<|qc 590<|qN<|qe) 11 (rs 12 (q0 591<|qv 2<|qe) .ret) <| rs 14 (qb 3 4<|qb 1 21<|qd 592<|q2 13 (.mov (.l 2))<|qx 0<|qy 1<|qY 3 2<|qG 4 z_34<|qs 4 4 7 4<|qV 5 5<|qV 6 6<|qe) <| rs 20 (qr 1 0<|qk .geq 1<|ya<|qr 1 0<|qk .leq 4<|za 3<|ya<|qr 1 1<|qk .lss 1<|yo<|qr 1 1<|qk .gtr 8<|y1 8<|qo 12<|za 8<|yo<|qr 1 0<|qk .eql 5<|yo<|qr 1 0<|qk .geq 9<|ya<|qr 1 0<|qk .leq 11<|y0 22<|qa 26<|y0 18<|qo 22<|ya<|qr 1 1<|qk .lss 0<|yo<|qr 1 1<|qk .gtr 3<|y1 32<|qo 36<|y0 18<|qa 32<|zo 18<|qv 7<|qe) <| sq (bk 0 (rs 64 (qr 1 0<|qk .lss 1<|yo<|qr 1 0<|qk .gtr 13<|zo 3<|qv 63<|qe) <| cd 63 (rt 72 (qm 6<|qk .eql 1<|ya<|qm 5<|qh false<|qk .eql 0<|za 2<|ya<|qb 4 4<|q0 593<|qd 605<|za 7<|ya<|q0 591<|za 12<|qv 2<|qe) .ret) <| rs 88 (qm 7<|yo<|qr 1 0<|qk .geq 6<|ya<|qr 1 0<|qk .leq 8<|y0 1<|qa 5<|zo 1<|qv 87<|qe) <| cd 87 (rt 99 (qm 6<|qk .eql 7<|ya<|qm 5<|qh false<|qk .eql 0<|za 2<|ya<|qb 4 4<|q0 593<|qd 605<|za 7<|ya<|q0 591<|za 12<|qv 2<|qe) .ret) .skip)) <| rt 114 (qb 3 4<|q0 593<|qd 605<|ya<|qm 5<|qh false<|qk .eql 0<|za 3<|ya<|q0 591<|za 8<|qv 2<|qe) .ret
def F588 : F := mF 1 [.t 2] none c588
attribute [go_sem] c588 F588
def l589_0 : C := .loop [] [] [3] [] (rs 11 (q3 (.bin .lss (.g 10) (ci 4))<|qe) <| sq (cd 11 .skip <| .exit 0) <| sq (bk 1 (rs 12 (qm 10<|qv 2<|qe) <| rs 14 (qm 2<|q1 (.call (.k 720) .freeze none [.l 0])<|q2 13 (.mov (.l 1))<|qx 0<|qy 1<|qG 3 z_31<|qs 3 38 5 3<|qD 4<|q1 (.mov (.l 4))<|qe) <| r1 18 (qr 1 0<|qb 3 38<|q1 (.mks 38 1 z_31 [(0,.l 2)])<|q1 (.app 22 38 (.l 1) (.l 3))<|qf 1 0<|qs 1 1 5 4<|qe))) <| r1 24 (q1 (.bin .add (.g 10) (ci 1))<|qv 10<|qe))
def l589_1 : C := .loop [] [] [6] [] (rs 26 (q3 (.bin .lss (.g 25) (ci 8))<|qe) <| sq (cd 26 .skip <| .exit 2) <| sq (bk 3 (rs 27 (qm 25<|qv 5<|qe) <| rs 29 (qm 5<|qk .add 1<|q1 (.call (.k 594) .freeze none [.l 1])<|q2 28 (.mov (.l 2))<|qx 0<|qy 1<|qG 6 z_35<|qs 6 18 6 4<|qD 7<|q1 (.mov (.l 5))<|qe) <| r1 34 (qr 1 1<|qb 6 18<|q1 (.mks 18 1 z_35 [(0,.l 2)])<|q1 (.app 38 18 (.l 1) (.l 3))<|qf 1 1<|qs 1 1 5 4<|qe))) <| r1 40 (q1 (.bin .add (.g 25) (ci 1))<|qv 25<|qe))
def c589 : C := rs 0 (qG 0 z_34<|qe) <| rs 8 (q1 (.mks 1 4 [.int .i64 0] [])<|q1 (.build [.nslice 38,.nslice 18,.slice 1 [],.slice 1 []] [(2,1,.l 0)])<|qG 1 z_36<|qs 1 4 2 1<|qe) <| sq (rs 0 (qz 10 0<|qe) <| bk 0 l589_0) <| sq (rs 0 (qz 25 0<|qe) <| bk 2 l589_1) <| rs 41 (qb 1 4<|qt 0 4 0<|qe) .ret
def F589 : F := mF 0 [.cell 0 (some 4)] none c589
attribute [go_sem] c589 F589
def c590 : C := rs 0 (qB 1 0<|qF 2<|qe) <| rs 3 (qf 1 3<|qg 3<|ql 1<|qh true<|qk .leq 100<|ya<|qf 1 3<|qg 10<|ql 1<|qh true<|qk .leq 100<|za 5<|ya<|qf 1 15<|qg 5<|ql 1<|qh false<|qk .leq 40<|za 12<|ya<|qf 1 15<|qg 4<|ql 1<|qh true<|qk .leq 100<|za 19<|qv 2<|qe) .ret
def F590 : F := mF 1 [.t 2] none c590
attribute [go_sem] c590 F590
def b591_0 : C := rs 21 (q3 (.bin .lss (.g 20) (ci 3))<|qe) <| sq (cd 21 .skip <| .exit 0) <| sq (bk 1 (rs 23 (qb 1 4<|q1 (.build z_37 [(0,1,.c (.int .i64 13))])<|qd 592<|q2 22 (.mov (.l 2))<|qx 0<|qy 1<|qY 3 2<|qG 5 z_34<|qs 5 4 7 4<|qV 6 5<|qD 7<|q1 (.mov (.l 6))<|qe) <| r1 29 (qb 5 4<|qm 4<|qm 6<|qh false<|qq .add 1<|qt 1 4 0<|qw 4<|qe))) <| r1 34 (q1 (.bin .add (.g 20) (ci 1))<|qv 20<|qe)
def l591_0 : C := .loop [] [] [5] [] b591_0
def c591 : C := rs 0 (qF 0<|qe) <| rs 11 (q0 589<|qG 1 z_34<|qs 1 4 1 0<|qe) <| rs 13 (qb 1 4<|q1 (.build z_24 [(2,1,.c (.int .i64 1)),(3,1,.c (.str [97])),(4,1,.c (.str [120]))])<|q1 (.build z_37 [(0,1,.c (.int .i64 1)),(1,1,.c (.int .i64 1)),(3,12,.l 1)])<|qC 592 (ls [0,2])<|q2 12 (.mov (.l 3))<|qx 0<|qy 1<|qY 4 2<|qt 1 4 5<|qD 2<|q1 (.mov (.l 6))<|q3 (.mov (.l 7))<|qe) <| rs 0 (qz 4 0<|qe) <| sq (rs 0 (qz 20 0<|qe) <| bk 0 l591_0) <| rs 36 (qb 1 4<|qC 595 [.l 0,.c (.str [97])]<|q2 35 (.mov (.l 1))<|qx 0<|qy 1<|qY 2 2<|qD 9<|q1 (.alloc z_3)<|qV 8 3<|qs 9 3 6 4<|q3 (.mov (.l 5))<|qe) <| rs 41 (qm 3<|qk .eql 0<|ya<|qm 4<|qk .eql 1<|za 2<|ya<|qm 10<|za 6<|ya<|qm 8<|qh false<|qk .eql 1<|za 9<|ya<|qm 8<|q1 (.iad 5 (.l 15) (ci 0))<|qg 4<|qj<|q1 (.bin .eql (.l 18) (.c (.str [120])))<|za 14<|qv 0<|qe) .ret
def F591 : F := mF 0 [.t 0] none c591
attribute [go_sem] b591_0 c591 F591
def c592 : C := rs 0 (qB 2 0<|qB 3 1<|qG 4 z_34<|qS 5 25<|qz 6 0<|qe) <| i1 9 (qb 2 4<|qc 596<|qN<|qe) 11 (rs 12 (qb 2 4<|qt 4 4 0<|qS 5 25<|qz 6 1<|qe) .ret) <| rt 13 (qr 2 0<|q1 (.call (.k 597) .no (some 0) [.l 1])<|qr 2 1<|q1 (.call (.k 598) .no (some 0) [.l 4])<|qr 2 2<|q1 (.call (.k 69) .no (some 0) [.l 7])<|qr 2 3<|q1 (.call (.k 380) .no (some 0) [.l 10])<|q1 (.build z_34 [(0,1,.l 2),(1,1,.l 5),(2,1,.l 8),(3,1,.l 11)])<|q1 (.build [.nslice 38,.nslice 18,.nslice 1,.nslice 1,.nslice 25] [(0,4,.l 12)])<|q1 (.box (.l 13))<|qv 7<|qe) <| rs 0 (qz 8 1<|qe) <| sq (rs 28 (qf 3 0<|q3 (.load (.v 3) none (.l 0))<|qe) <| bk 0 (sq (rs 31 (q1 (.bin .eql (.g 29) (ci 1))<|qv 30<|qe) <| cd 30 .skip <| rs 32 (q1 (.bin .eql (.g 29) (ci 2))<|qv 30<|qe) <| cd 30 .skip <| rs 33 (q1 (.bin .eql (.g 29) (ci 3))<|qv 30<|qe) <| cd 30 .skip <| r1 34 (q1 (.bin .eql (.g 29) (ci 4))<|qv 30<|qe)) <| cd 30 (r1 35 (qm 7<|qb 3 21<|q1 (.rcall 599 [.l 0,.l 1] 0 27 20000)<|qv 8<|qe)) <| sq (rs 39 (q1 (.bin .eql (.g 29) (ci 5))<|qv 38<|qe) <| cd 38 .skip <| rs 40 (q1 (.bin .eql (.g 29) (ci 9))<|qv 38<|qe) <| cd 38 .skip <| rs 41 (q1 (.bin .eql (.g 29) (ci 10))<|qv 38<|qe) <| cd 38 .skip <| r1 42 (q1 (.bin .eql (.g 29) (ci 11))<|qv 38<|qe)) <| cd 38 (r1 43 (qm 7<|qb 3 21<|q1 (.rcall 600 [.l 0,.l 1] 0 27 20100)<|qv 8<|qe)) <| sq (rs 47 (q1 (.bin .eql (.g 29) (ci 6))<|qv 46<|qe) <| cd 46 .skip <| rs 48 (q1 (.bin .eql (.g 29) (ci 7))<|qv 46<|qe) <| cd 46 .skip <| r1 49 (q1 (.bin .eql (.g 29) (ci 8))<|qv 46<|qe)) <| cd 46 (r1 50 (qm 7<|qb 3 21<|q1 (.rcall 601 [.l 0,.l 1] 0 27 20200)<|qv 8<|qe)) <| rs 54 (q1 (.bin .eql (.g 29) (ci 12))<|qv 53<|qe) <| cd 53 (r2 56 (qm 7<|q1 (.nilc (.l 0))<|qg 0<|qg 0<|ql 27<|qm 7<|q1 (.nilc (.l 5))<|qg 0<|qg 0<|ql 27<|q1 (.iad 38 (.l 9) (ci 0))<|q1 (.load (.x) (some 38) (.l 10))<|qR 3 15 6<|qC 721 (ls [11,13])<|q2 55 (.mov (.l 14))<|qx 0<|qy 1<|q1 (.iad 38 (.l 4) (ci 0))<|q5 (.store (.x) 38 (.l 18) (.l 16))<|qV 8 17<|qe)) <| rs 75 (q1 (.bin .eql (.g 29) (ci 13))<|qv 74<|qe) <| cd 74 (rs 76 (qm 7<|q1 (.rcall 603 [.l 0] 0 27 20300)<|qe) <| r1 0 (qz 8 0<|qe)) .skip)) <| rt 78 (qm 7<|q1 (.nilc (.l 0))<|qg 0<|q1 (.load (.v 27) (some 4) (.l 2))<|qm 7<|q1 (.nilc (.l 4))<|qg 4<|ql 27<|qm 8<|qt 4 4 3<|qV 5 7<|qV 6 8<|qe) .ret
def F592 : F := mF 2 [.cell 4 (some 4),.t 5,.t 6] none c592
attribute [go_sem] c592 F592
def l593_0 : C := .loop [] [] [] [] (lq 6 (qm 2<|qK .lss 4<|qe) 7 0 <| sq (bk 1 (r2 11 (qm 1<|qm 2<|qm 2<|qc 604<|q2 10 (.mov (.l 3))<|qx 0<|qy 1<|q1 (.nilc (.l 0))<|qg 0<|q1 (.iada 38 4 (.l 8) (.l 1))<|qs 5 38 9 5<|qe))) <| r1 8 (qm 2<|qk .add 1<|qv 2<|qe))
def l593_1 : C := .loop [] [] [] [] (lq 20 (qm 3<|qK .lss 8<|qe) 21 2 <| sq (bk 3 (r1 24 (qm 1<|qm 3<|qm 3<|qk .add 1<|q1 (.build z_35 [(0,1,.l 3),(1,1,.c (.int .i64 1))])<|q1 (.nilc (.l 0))<|qg 152<|q1 (.iada 18 8 (.l 6) (.l 1))<|qs 5 18 7 4<|qe))) <| r1 22 (qm 3<|qk .add 1<|qv 3<|qe))
def c593 : C := rs 0 (q3 (.mov (.c (.undef)))<|qe) <| rs 4 (q1 (.build z_38 [])<|q1 (.box (.l 0))<|qv 1<|qe) <| sq (rs 0 (qz 2 0<|qe) <| bk 0 l593_0) <| sq (rs 0 (qz 3 0<|qe) <| bk 2 l593_1) <| rs 32 (qm 1<|qv 0<|qe) .ret
def F593 : F := mF 0 [.t 0] none c593
attribute [go_sem] c593 F593
def l605_0 : C := .loop [] [] [] [] (rs 39 (q3 (.bin .lss (.g 38) (.g 37))<|qe) <| sq (cd 39 .skip <| .exit 0) <| sq (bk 1 (rs 40 (qm 38<|qv 5<|qe) <| rt 41 (qr 2 0<|qm 5<|qi 38<|qJ 38<|qc 606<|qm 1<|qm 5<|q1 (.nilc (.l 6))<|qg 0<|q1 (.iada 38 4 (.l 9) (.l 7))<|qJ 38<|qC 607 (ls [5,11])<|qn<|yo<|qr 2 2<|qm 5<|qi 1<|qj<|qm 1<|qm 5<|q1 (.nilc (.l 20))<|qg 296<|q1 (.iada 1 4 (.l 23) (.l 21))<|qj<|qq .neq 19<|zO 14<|qe) <| cd 68 (rs 0 (qF 4<|qe) .ret) .skip)) <| r1 69 (q1 (.bin .add (.g 38) (ci 1))<|qv 38<|qe))
def l605_1 : C := .loop [] [] [] [] (rs 74 (q3 (.bin .lss (.g 73) (.g 72))<|qe) <| sq (cd 74 .skip <| .exit 2) <| sq (bk 3 (rs 75 (qm 73<|qv 6<|qe) <| rt 76 (qr 2 1<|qm 6<|qi 18<|qJ 18<|qm 1<|qm 6<|q1 (.nilc (.l 5))<|qg 152<|q1 (.iada 18 8 (.l 8) (.l 6))<|qJ 18<|qC 608 (ls [4,10])<|qN<|qe) <| cd 88 (rs 0 (qF 4<|qe) .ret) .skip)) <| r1 89 (q1 (.bin .add (.g 73) (ci 1))<|qv 73<|qe))
def l605_2 : C := .loop [] [] [] [] (rs 94 (q3 (.bin .lss (.g 93) (.g 92))<|qe) <| sq (cd 94 .skip <| .exit 4) <| sq (bk 5 (rs 95 (qm 93<|qv 7<|qe) <| rt 96 (qr 2 3<|qm 7<|qi 1<|qj<|qm 1<|q1 (.nilc (.l 5))<|qg 300<|qj<|qm 7<|qi 36<|qJ 36<|qc 609<|qQ .neq 4<|qe) <| cd 109 (rs 0 (qF 4<|qe) .ret) .skip)) <| r1 110 (q1 (.bin .add (.g 93) (ci 1))<|qv 93<|qe))
def c605 : C := rs 0 (qB 2 0<|qF 4<|qe) <| i2 8 (qr 2 0<|qh false<|qk .neq 4<|yo<|qr 2 1<|qh false<|qk .neq 8<|zo 4<|yo<|qr 2 2<|qh false<|qk .neq 4<|zo 10<|yo<|qr 2 3<|qh false<|qm 1<|q1 (.nilc (.l 20))<|qg 300<|qj<|qh false<|qq .neq 19<|zO 16<|qe) 34 (rs 0 (qF 4<|qe) .ret) <| sq (rs 35 (qr 2 0<|qH false<|q3 (.mov (ci 0))<|qe) <| bk 0 l605_0) <| sq (rs 70 (qr 2 1<|qH false<|q3 (.mov (ci 0))<|qe) <| bk 2 l605_1) <| sq (rs 90 (qr 2 3<|qH false<|q3 (.mov (ci 0))<|qe) <| bk 4 l605_2) <| rs 0 (qT 4<|qe) .ret
def F605 : F := mF 2 [.t 4] none c605
attribute [go_sem] c605 F605
def c720 : C := rs 0 (qG 2 z_31<|qz 3 0<|qe) <| rs 7 (qm 0<|q1 (.build z_31 [(0,1,.l 0),(37,1,.c (.bool true))])<|qG 4 z_31<|qs 4 38 2 1<|qe) <| sq (rs 9 (qm 0<|qK .eql 0<|qe) <| cd 10 (r1 11 (q0 327<|qf 4 8<|qs 4 29 1 0<|qe)) <| rs 14 (qm 0<|qc 395<|q2 13 (.mov (.l 1))<|qx 0<|qy 1<|qG 5 z_20<|qs 5 2 5 3<|qV 6 4<|qe) <| i1 18 (qm 6<|qK .neq 0<|qe) 19 (rs 20 (q1 (.build z_31 [])<|qm 6<|qt 2 38 0<|qw 3<|qe) .ret) <| r1 22 (qb 5 2<|qf 4 6<|qs 4 2 1 0<|qe)) <| rt 25 (qR 4 1 5<|qb 4 38<|qc 722<|q1 (.inv [(155,553),(192,554)] (.l 3) [])<|qC 555 (ls [1,4])<|q2 24 (.mov (.l 5))<|qx 0<|qy 1<|qf 4 1<|qs 4 5 9 7<|qe) <| rs 34 (qb 4 38<|qt 2 38 0<|qz 3 0<|qe) .ret
def F720 : F := mF 1 [.cell 2 (some 38),.t 3] none c720
attribute [go_sem] c720 F720
def c594 : C := rs 0 (qG 2 z_35<|qz 3 0<|qe) <| i1 4 (qm 0<|qk .lss 1<|yo<|qm 0<|qk .gtr 8<|zO 2<|qe) 9 (rs 10 (q1 (.build z_35 [])<|qt 2 18 0<|qz 3 1<|qe) .ret) <| rs 11 (qm 0<|q1 (.build z_35 [(0,1,.l 0),(1,1,.c (.int .i64 1))])<|qt 2 18 1<|qz 3 0<|qe) .ret
def F594 : F := mF 1 [.cell 2 (some 18),.t 3] none c594
attribute [go_sem] c594 F594
def l595_0 : C := .loop [] [] [14] [] (rs 61 (q3 (.bin .lss (.g 60) (.g 59))<|qe) <| sq (cd 61 .skip <| .exit 0) <| sq (bk 1 (rs 62 (q1 (.iad 2 (.g 58) (.g 60))<|qJ 2<|qG 14 z_7<|qs 14 2 2 1<|qe) <| rs 64 (qr 14 0<|q1 (.load (.v 3) none (.g 3))<|qQ .eql 1<|qe) <| cd 67 (rt 68 (qr 14 1<|qc 23<|qR 12 6 3<|qV 4 2<|qt 5 3 4<|qT 6<|qe) .ret) .skip)) <| r1 73 (q1 (.bin .add (.g 60) (ci 1))<|qv 60<|qe))
def c595 : C := rs 0 (qB 2 0<|qB 3 1<|qS 4 5<|qG 5 z_3<|qF 6<|qe) <| i1 15 (qb 2 4<|qc 596<|qN<|qe) 17 (rs 18 (q1 (.build z_3 [])<|qS 4 5<|qt 5 3 0<|qF 6<|qe) .ret) <| rt 20 (qr 2 0<|q1 (.iad 38 (.l 1) (ci 0))<|qg 8<|qg 0<|qj<|q1 (.load (.v 3) none (.g 3))<|qd 144<|q2 19 (.mov (.l 7))<|qx 0<|qy 1<|qG 7 z_0<|qs 7 5 11 9<|qV 8 10<|qe) <| rs 31 (qb 2 4<|qr 7 3<|qC 610 (ls [0,2])<|q2 30 (.mov (.l 3))<|qx 0<|qy 1<|qG 9 z_8<|qs 9 5 7 5<|qV 10 6<|qe) <| rs 37 (qr 9 0<|q1 (.fn 611 [.g 3] [3])<|qd 501<|qv 11<|qe) <| i1 41 (qm 8<|qn<|yo<|qm 10<|qn<|zo 2<|yo<|qm 11<|qk .lss 0<|zO 6<|qe) 50 (rs 51 (q1 (.build z_3 [])<|qS 4 5<|qt 5 3 0<|qF 6<|qe) .ret) <| rs 52 (qr 9 0<|qm 11<|qi 17<|qJ 17<|qG 12 z_10<|qs 12 17 5 4<|qe) <| sq (rs 57 (qf 12 5<|q3 (.load (.v 12) none (.l 0))<|qH false<|q3 (.mov (ci 0))<|qe) <| bk 0 l595_0) <| rt 74 (qR 12 6 3<|qS 4 5<|qt 5 3 1<|qT 6<|qe) .ret
def F595 : F := mF 2 [.t 4,.cell 5 (some 3),.t 6] none c595
attribute [go_sem] c595 F595
def c596 : C := rs 0 (qB 1 0<|qF 2<|qe) <| rs 3 (qr 1 0<|qh false<|qk .eql 4<|ya<|qr 1 2<|qh false<|qk .eql 4<|za 4<|ya<|qr 1 1<|qh false<|qk .eql 8<|za 10<|qv 2<|qe) .ret
def F596 : F := mF 1 [.t 2] none c596
attribute [go_sem] c596 F596
def c599 : C := rs 0 (qB 3 1<|qz 4 0<|qe) <| i1 7 (qr 3 1<|qc 612<|qN<|qe) 10 (rs 0 (qz 4 7<|qe) .ret) <| rt 11 (qm 0<|q1 (.nilc (.l 0))<|qg 0<|qg 1<|ql 0<|qr 3 1<|qk .sub 1<|q1 (.iad 18 (.l 4) (.l 7))<|q1 (.load (.x) (some 18) (.l 8))<|qG 5 z_35<|qs 5 18 10 9<|qe) <| rs 0 (qz 6 0<|qe) <| sq (rs 21 (qf 3 0<|q3 (.load (.v 3) none (.l 0))<|qe) <| bk 0 (rs 24 (q1 (.bin .eql (.g 22) (ci 1))<|qv 23<|qe) <| cd 23 (r1 26 (qb 5 18<|qR 3 3 12<|qC 613 (ls [0,2])<|q2 25 (.mov (.l 3))<|qx 0<|qy 1<|qt 5 18 5<|qw 6<|qe)) <| rs 33 (q1 (.bin .eql (.g 22) (ci 2))<|qv 32<|qe) <| cd 32 (r1 35 (qb 5 18<|qf 3 3<|qg 3<|ql 3<|qf 3 3<|qg 10<|ql 3<|qC 614 (ls [0,3,6])<|q2 34 (.mov (.l 7))<|qx 0<|qy 1<|qt 5 18 9<|qw 6<|qe)) <| rs 46 (q1 (.bin .eql (.g 22) (ci 3))<|qv 45<|qe) <| cd 45 (r1 47 (qm 0<|qb 5 18<|qr 3 2<|qC 615 (ls [1,3])<|q1 (.rcall 616 [.l 0,.l 4] 0 0 20000)<|qe)) <| rs 54 (q1 (.bin .eql (.g 22) (ci 4))<|qv 53<|qe) <| cd 53 (rs 55 (qm 0<|qr 3 1<|q1 (.rcall 617 [.l 0,.l 2] 0 0 20100)<|qe) <| rs 0 (qz 4 0<|qe) .ret) .skip)) <| rt 59 (qm 0<|q1 (.nilc (.l 0))<|qg 0<|qg 1<|ql 0<|qr 3 1<|qk .sub 1<|qb 5 18<|q1 (.iad 18 (.l 4) (.l 7))<|q5 (.store (.x) 18 (.l 9) (.l 8))<|qe) <| rs 69 (qm 6<|qv 4<|qe) .ret
def F599 : F := mF 2 [.t 4] none c599
attribute [go_sem] c599 F599
def c600 : C := rs 0 (qB 3 1<|qz 4 0<|qe) <| i1 7 (qr 3 1<|qc 618<|qN<|qe) 10 (rs 0 (qz 4 7<|qe) .ret) <| rt 11 (qm 0<|q1 (.nilc (.l 0))<|qg 0<|qg 0<|ql 0<|qr 3 1<|q1 (.iad 38 (.l 4) (.l 6))<|q1 (.load (.x) (some 38) (.l 7))<|qG 5 z_31<|qs 5 38 9 8<|qe) <| rs 0 (qz 6 0<|qe) <| sq (rs 20 (qf 3 0<|q3 (.load (.v 3) none (.l 0))<|qe) <| bk 0 (rs 23 (q1 (.bin .eql (.g 21) (ci 5))<|qv 22<|qe) <| cd 22 (rs 24 (qm 0<|qr 3 1<|q1 (.rcall 619 [.l 0,.l 2] 0 0 20000)<|qv 4<|qe) .ret) <| rs 29 (q1 (.bin .eql (.g 21) (ci 9))<|qv 28<|qe) <| cd 28 (i1 30 (qr 3 2<|qk .lss 0<|yo<|qr 3 2<|qk .gtr 1099511627776<|zO 3<|qe) 37 (rs 0 (qz 4 1<|qe) .ret) <| r2 38 (qm 0<|q1 (.nilc (.l 0))<|qg 0<|qg 2<|ql 0<|qr 3 1<|qr 3 2<|q1 (.iad 1 (.l 4) (.l 6))<|q5 (.store (.x) 1 (.l 9) (.l 8))<|qe)) <| rs 49 (q1 (.bin .eql (.g 21) (ci 10))<|qv 48<|qe) <| cd 48 (r1 50 (qb 5 38<|qr 3 2<|qC 723 (ls [0,2])<|qt 5 38 3<|qe)) <| rs 55 (q1 (.bin .eql (.g 21) (ci 11))<|qv 54<|qe) <| cd 54 (r1 57 (qb 5 38<|qr 3 2<|qC 724 (ls [0,2])<|q2 56 (.mov (.l 3))<|qx 0<|qy 1<|qt 5 38 5<|qw 6<|qe)) .skip)) <| rt 63 (qm 0<|q1 (.nilc (.l 0))<|qg 0<|qg 0<|ql 0<|qr 3 1<|qb 5 38<|q1 (.iad 38 (.l 4) (.l 6))<|q5 (.store (.x) 38 (.l 8) (.l 7))<|qe) <| rs 72 (qm 6<|qv 4<|qe) .ret
def F600 : F := mF 2 [.t 4] none c600
attribute [go_sem] c600 F600
def c601 : C := rs 0 (qB 3 1<|qz 4 0<|qe) <| i2 5 (qr 3 2<|qk .lss 0<|yo<|qr 3 2<|qm 0<|q1 (.nilc (.l 6))<|qg 0<|qg 3<|ql 0<|qh false<|qq .geq 5<|zO 3<|qe) 18 (rs 0 (qz 4 7<|qe) .ret) <| sq (rs 19 (qf 3 0<|q3 (.load (.v 3) none (.l 0))<|qe) <| bk 0 (rs 22 (q1 (.bin .eql (.g 20) (ci 6))<|qv 21<|qe) <| cd 21 (rs 23 (qm 0<|qr 3 2<|q1 (.rcall 620 [.l 0,.l 2] 0 0 20000)<|qv 4<|qe) .ret) <| rs 28 (q1 (.bin .eql (.g 20) (ci 7))<|qv 27<|qe) <| cd 27 (r2 29 (qm 0<|qm 0<|q1 (.nilc (.l 1))<|qg 0<|qg 3<|ql 0<|qr 3 2<|qr 3 2<|qk .add 1<|q1 (.del 621 9003 1 (.l 5) (.l 7) (.l 10))<|q1 (.nilc (.l 0))<|qg 0<|qg 3<|qs 0 1 14 11<|qe)) <| rs 45 (q1 (.bin .eql (.g 20) (ci 8))<|qv 44<|qe) <| cd 44 (i1 46 (qm 0<|q1 (.nilc (.l 0))<|qg 0<|qg 3<|ql 0<|qh false<|qK .geq 256<|qe) 52 (rs 0 (qz 4 6<|qe) .ret) <| r2 53 (qm 0<|qm 0<|q1 (.nilc (.l 1))<|qg 0<|qg 3<|ql 0<|qm 0<|q1 (.nilc (.l 6))<|qg 0<|qg 3<|ql 0<|qr 3 2<|q1 (.iad 1 (.l 10) (.l 12))<|q1 (.load (.x) none (.l 13))<|q1 (.mks 1 1 [.str []] [(0,.l 14)])<|q1 (.appd 1 (.l 5) (.l 15))<|q1 (.nilc (.l 0))<|qg 0<|qg 3<|qs 0 1 19 16<|qe)) .skip)) <| rs 0 (qz 4 0<|qe) .ret
def F601 : F := mF 2 [.t 4] none c601
attribute [go_sem] c601 F601
def c721 : C := rs 0 (qB 2 0<|qB 3 1<|qG 4 z_31<|qz 5 0<|qe) <| sq (rs 11 (qb 2 38<|qc 558<|qv 6<|qe) <| rs 13 (qm 6<|qK .neq 0<|qe) <| cd 14 (rs 15 (qb 2 38<|qm 6<|qt 4 38 0<|qw 5<|qe) .ret) .skip) <| rs 18 (qb 2 38<|qc 722<|q1 (.asr 155 (some z_13) (.l 1))<|q2 17 (.mov (.l 2))<|qx 0<|qy 1<|qG 7 z_13<|qs 7 29 6 4<|qV 8 5<|qe) <| i1 23 (qm 8<|qN<|qe) 24 (rs 25 (qb 2 38<|qt 4 38 0<|qz 5 7<|qe) .ret) <| rs 27 (qR 7 0 29<|qb 3 6<|qd 331<|q2 26 (.mov (.l 3))<|qx 0<|qy 1<|qG 9 z_13<|qs 9 29 7 5<|qV 10 6<|qe) <| i1 33 (qm 10<|qK .neq 0<|qe) 34 (rs 35 (qb 2 38<|qm 10<|qt 4 38 0<|qw 5<|qe) .ret) <| rs 37 (qb 2 38<|qb 9 29<|q1 (.build z_13 [(0,29,.l 1)])<|q1 (.mif 155 (.l 2))<|qC 725 (ls [0,3])<|qx 0<|qy 1<|qt 4 38 5<|qw 5<|qe) .ret
def F721 : F := mF 2 [.cell 4 (some 38),.t 5] none c721
attribute [go_sem] c721 F721
def l603_0 : C := .loop [] [0,0,9000,0,1,9001,0,2,9002,0,3,9003,0,4,9004] [] [20000,20001,20002,20003,20004] (rs 12 (q3 (.bin .lss (.g 11) (.g 10))<|qe) <| sq (cd 12 .skip <| .exit 0) <| sq (bk 1 (rs 13 (qm 11<|qv 2<|qe) <| rs 14 (qm 0<|q1 (.nilc (.l 0))<|qg 0<|qg 0<|ql 0<|qm 2<|qi 38<|qg 37<|q3 (.load (.x) none (.l 7))<|qe) <| cd 22 (r1 23 (qm 0<|qm 2<|q1 (.rcall 619 [.l 0,.l 1] 0 0 20000)<|qe)) .skip)) <| r1 26 (q1 (.bin .add (.g 11) (ci 1))<|qv 11<|qe))
def l603_1 : C := .loop [] [0,0,9000,0,1,9001,0,2,9002,0,3,9003,0,4,9004] [] [20100,20101,20102,20103,20104] (rs 34 (q3 (.bin .lss (.g 33) (.g 32))<|qe) <| sq (cd 34 .skip <| .exit 2) <| sq (bk 3 (rs 35 (qm 33<|qv 3<|qe) <| r1 36 (qm 0<|qm 3<|qk .add 1<|q1 (.rcall 617 [.l 0,.l 2] 0 0 20100)<|qe))) <| r1 40 (q1 (.bin .add (.g 33) (ci 1))<|qv 33<|qe))
def l603_2 : C := .loop [] [0,0,9000,0,1,9001,0,2,9002,0,3,9003,0,4,9004] [] [20200,20201,20202,20203,20204] (lq 41 (qm 4<|qk .lss 1000<|ya<|qm 0<|q1 (.nilc (.l 3))<|qg 0<|qg 3<|ql 0<|qh false<|qk .gtr 0<|zA 2<|qe) 51 4 <| sq (bk 5 (r1 54 (qm 0<|q1 (.rcall 620 [.l 0,.c (.int .i64 0)] 0 0 20200)<|qe))) <| r1 52 (qm 4<|qk .add 1<|qv 4<|qe))
def c603 : C := sq (rs 5 (qm 0<|q1 (.nilc (.l 0))<|qg 0<|qg 0<|ql 0<|qH false<|q3 (.mov (ci 0))<|qe) <| bk 0 l603_0) <| sq (rs 27 (qm 0<|q1 (.nilc (.l 0))<|qg 0<|qg 1<|ql 0<|qH false<|q3 (.mov (ci 0))<|qe) <| bk 2 l603_1) <| rs 0 (qz 4 0<|qe) <| bk 4 l603_2
def F603 : F := mF 1 [] none c603
attribute [go_sem] c603 F603
def c604 : C := rs 0 (qG 2 z_31<|qF 3<|qe) <| rs 7 (qm 0<|q1 (.build z_31 [(0,1,.l 0),(37,1,.c (.bool true))])<|qG 4 z_31<|qs 4 38 2 1<|qe) <| sq (rs 9 (qm 0<|qK .eql 0<|qe) <| cd 10 (r1 11 (q1 (.build z_0 [(2,1,.c (.int .i64 1)),(3,1,.c (.int .i64 1)),(4,1,.c (.int .i64 1))])<|q1 (.mks 5 1 z_0 [(0,.l 0)])<|q1 (.mks 3 3 z_3 [])<|q1 (.mks 1 2 [.int .i64 0] [(0,.c (.int .i64 1)),(1,.c (.int .i64 2))])<|q1 (.build z_12 [(0,1,.c (.int .i64 1)),(1,1,.l 3),(2,1,.c (.bool true))])<|q1 (.mks 1 2 [.int .i64 0] [(0,.c (.int .i64 2)),(1,.c (.int .i64 3))])<|q1 (.build z_12 [(0,1,.c (.int .i64 1)),(1,1,.l 5),(2,1,.c (.bool true))])<|q1 (.mks 1 2 [.int .i64 0] [(0,.c (.int .i64 3)),(1,.c (.int .i64 1))])<|q1 (.build z_12 [(0,1,.c (.int .i64 1)),(1,1,.l 7),(2,1,.c (.bool true))])<|q1 (.mks 3 3 z_12 [(0,.l 4),(1,.l 6),(2,.l 8)])<|q1 (.build z_13 [(0,1,.l 1),(2,1,.c (.int .i64 2)),(4,1,.l 2),(1,1,.l 9)])<|qf 4 8<|qs 4 29 11 10<|qe)) <| rs 24 (qm 0<|qc 396<|q2 23 (.mov (.l 1))<|qx 0<|qy 1<|qG 5 z_20<|qs 5 2 5 3<|qV 6 4<|qe) <| i1 28 (qm 6<|qN<|qe) 29 (rs 30 (q1 (.build z_31 [])<|qt 2 38 0<|qF 3<|qe) .ret) <| r1 31 (qb 5 2<|qf 4 6<|qs 4 2 1 0<|qe)) <| rt 34 (qR 4 1 5<|qb 4 38<|qc 622<|qC 623 (ls [1,3])<|q2 33 (.mov (.l 4))<|qx 0<|qy 1<|qf 4 1<|qs 4 5 8 6<|qe) <| rs 42 (qb 4 38<|qt 2 38 0<|qT 3<|qe) .ret
def F604 : F := mF 1 [.cell 2 (some 38),.t 3] none c604
attribute [go_sem] c604 F604
def l606_0 : C := .loop [] [] [5] [] (rs 27 (q3 (.bin .lss (.g 26) (.g 25))<|qe) <| sq (cd 27 .skip <| .exit 0) <| sq (bk 1 (rs 28 (q1 (.iad 9 (.g 24) (.g 26))<|qJ 9<|qG 5 z_19<|qs 5 9 2 1<|qe) <| r1 30 (qf 3 6<|qg 1<|ql 3<|qr 5 0<|qR 5 1 7<|qr 5 8<|q1 (.build z_19 [(0,1,.l 4),(1,7,.l 6),(8,1,.l 8)])<|q1 (.mks 9 1 z_19 [(0,.l 9)])<|q1 (.app 41 9 (.l 2) (.l 10))<|qf 3 6<|qg 1<|qs 3 1 13 11<|qe))) <| r1 44 (q1 (.bin .add (.g 26) (ci 1))<|qv 26<|qe))
def l606_1 : C := .loop [] [] [8] [] (rs 65 (q3 (.bin .lss (.g 64) (.g 63))<|qe) <| sq (cd 65 .skip <| .exit 2) <| sq (bk 3 (rs 66 (q1 (.iad 3 (.g 62) (.g 64))<|qJ 3<|qG 8 z_12<|qs 8 3 2 1<|qe) <| r1 68 (qf 3 8<|qg 1<|ql 3<|qb 8 3<|q1 (.mks 3 1 z_12 [(0,.l 3)])<|q1 (.app 73 3 (.l 2) (.l 4))<|qf 3 8<|qg 1<|qs 3 1 7 5<|qe))) <| r1 76 (q1 (.bin .add (.g 64) (ci 1))<|qv 64<|qe))
def l606_2 : C := .loop [] [] [10] [] (rs 81 (q3 (.bin .lss (.g 80) (.g 79))<|qe) <| sq (cd 81 .skip <| .exit 4) <| sq (bk 5 (rs 82 (q1 (.iad 7 (.g 78) (.g 80))<|qJ 7<|qG 10 z_15<|qs 10 7 2 1<|qe) <| r1 84 (qf 3 8<|qg 28<|ql 3<|qb 10 7<|q1 (.mks 7 1 z_15 [(0,.l 3)])<|q1 (.app 89 7 (.l 2) (.l 4))<|qf 3 8<|qg 28<|qs 3 1 7 5<|qe))) <| r1 92 (q1 (.bin .add (.g 80) (ci 1))<|qv 80<|qe))
def c606 : C := rs 0 (qB 1 0<|qG 2 z_31<|qe) <| rs 11 (qr 1 0<|qR 1 1 5<|qr 1 37<|qf 1 6<|qg 0<|ql 1<|q1 (.build [.int .i64 0,.nslice 9] [(0,1,.l 8)])<|q1 (.build [.int .i64 0,.str [],.str [],.int .i64 0,.bool false,.bool false,.int .i64 0,.slice 9 [],.slice 5 [],.nslice 3,.int .i64 0,.slice 5 [],.slice 3 [],.int .i64 0,.int .i64 0,.int .i64 0,.int .i64 0,.int .i64 0,.int .i64 0,.int .i64 0,.int .i64 0,.int .i64 0,.int .i64 0,.int .i64 0,.str [],.slice 1 [],.int .i64 0,.int .i64 0,.int .i64 0,.str [],.str [],.slice 1 [],.int .i64 0,.int .i64 0,.int .i64 0,.slice 1 [],.nslice 7,.bool false] [(0,1,.l 1),(1,5,.l 3),(37,1,.l 5),(6,2,.l 9)])<|qG 3 z_39<|qs 3 38 11 10<|qe) <| sq (rs 22 (qf 1 6<|qg 1<|q3 (.load (.v 1) none (.l 1))<|qH false<|q3 (.mov (ci 0))<|qe) <| bk 0 l606_0) <| rs 45 (qR 1 8 29<|qG 6 z_13<|qs 6 29 2 1<|qe) <| rs 47 (qr 6 0<|qr 6 2<|qr 6 3<|qr 6 4<|qR 6 5 3<|qR 6 8 20<|q1 (.build [.slice 5 [],.nslice 3,.int .i64 0,.slice 5 [],.slice 3 [],.int .i64 0,.int .i64 0,.int .i64 0,.int .i64 0,.int .i64 0,.int .i64 0,.int .i64 0,.int .i64 0,.int .i64 0,.int .i64 0,.int .i64 0,.str [],.slice 1 [],.int .i64 0,.int .i64 0,.int .i64 0,.str [],.str [],.slice 1 [],.int .i64 0,.int .i64 0,.int .i64 0,.slice 1 [],.nslice 7] [(0,1,.l 1),(2,1,.l 3),(3,1,.l 5),(4,1,.l 7),(5,3,.l 9),(8,20,.l 11)])<|qf 3 8<|qs 3 29 13 12<|qe) <| sq (rs 61 (qf 6 1<|q3 (.load (.v 6) none (.l 0))<|qH false<|q3 (.mov (ci 0))<|qe) <| bk 2 l606_1) <| sq (rs 77 (qf 6 28<|q3 (.load (.v 6) none (.l 0))<|qH false<|q3 (.mov (ci 0))<|qe) <| bk 4 l606_2) <| rs 93 (qb 3 38<|qt 2 38 0<|qe) .ret
def F606 : F := mF 1 [.cell 2 (some 38)] none c606
attribute [go_sem] c606 F606
def c607 : C := rs 0 (qB 2 0<|qB 3 1<|qF 4<|qe) <| rs 5 (qr 2 0<|qr 3 0<|qq .eql 1<|ya<|qR 2 1 5<|qR 3 1 5<|q1 (.eqa false [.s,.s,.i,.b,.b] (.l 7) (.l 9))<|za 5<|ya<|qr 2 37<|qr 3 37<|q1 (.eqb false (.l 14) (.l 16))<|za 12<|ya<|qR 2 6 2<|qR 3 6 2<|qC 399 (ls [21,23])<|za 19<|ya<|qR 2 8 29<|qR 3 8 29<|qC 332 (ls [28,30])<|za 26<|qv 4<|qe) .ret
def F607 : F := mF 2 [.t 4] none c607
attribute [go_sem] c607 F607
def l608_0 : C := .loop [] [] [] [] (lq 13 (qm 5<|qr 2 3<|qh false<|qQ .lss 0<|qe) 17 0 <| sq (bk 1 (rt 20 (qr 2 3<|qm 5<|qi 1<|qj<|qr 3 3<|qm 5<|qi 1<|qj<|qQ .neq 4<|qe) <| cd 30 (rs 0 (qF 4<|qe) .ret) .skip)) <| r1 18 (qm 5<|qk .add 1<|qv 5<|qe))
def c608 : C := rs 0 (qB 2 0<|qB 3 1<|qF 4<|qe) <| i1 6 (qr 2 3<|qh false<|qr 3 3<|qh false<|qQ .neq 2<|qe) 12 (rs 0 (qF 4<|qe) .ret) <| sq (rs 0 (qz 5 0<|qe) <| bk 0 l608_0) <| rs 31 (qr 2 0<|qr 3 0<|qq .eql 1<|ya<|qr 2 1<|qr 3 1<|qq .eql 7<|za 5<|ya<|qr 2 2<|qr 3 2<|qC 153 (ls [14,16])<|za 12<|ya<|qR 2 4 12<|qR 3 4 12<|q1 (.eqa false [.i,.i,.i,.s,.s,.b,.s,.i,.i,.i,.s,.i] (.l 21) (.l 23))<|za 19<|ya<|qr 2 16<|qr 3 16<|q1 (.eqb false (.l 28) (.l 30))<|za 26<|ya<|qr 2 17<|qr 3 17<|qq .eql 35<|za 33<|qv 4<|qe) .ret
def F608 : F := mF 2 [.t 4] none c608
attribute [go_sem] c608 F608
def c609 : C := rs 0 (qB 1 0<|qE 2<|qe) <| rs 3 (qb 1 36<|qc 536<|qc 624<|qv 2<|qe) .ret
def F609 : F := mF 1 [.t 2] none c609
attribute [go_sem] c609 F609
def c722 : C := rs 2 (qB 1 0<|q3 (.mov (.c (.niface)))<|qe) <| i1 3 (qr 1 0<|qK .eql 0<|qe) 5 (rs 6 (qR 1 8 29<|q1 (.build z_13 [(0,29,.l 1)])<|q1 (.mif 155 (.l 2))<|qv 2<|qe) .ret) <| rs 10 (qR 1 6 2<|q1 (.build z_20 [(0,2,.l 1)])<|q1 (.mif 192 (.l 2))<|qv 2<|qe) .ret
def F722 : F := mF 1 [.t 2] none c722
attribute [go_sem] c722 F722
def l610_0 : C := .loop [] [] [9,10] [] (rs 22 (q3 (.bin .lss (.g 21) (.g 20))<|qe) <| sq (cd 22 .skip <| .exit 0) <| sq (bk 1 (rs 23 (q1 (.iad 38 (.g 19) (.g 21))<|qJ 38<|qG 9 z_31<|qs 9 38 2 1<|qe) <| rs 26 (qR 9 6 2<|q1 (.load (.v 3) none (.g 3))<|qd 406<|q2 25 (.mov (.l 3))<|qx 0<|qy 1<|qG 10 z_8<|qs 10 5 7 5<|qV 11 6<|qe) <| rs 32 (qf 9 6<|qg 1<|ql 9<|q1 (.fn 625 [.g 3] [3])<|qd 463<|qv 12<|qe) <| rs 37 (qm 11<|ya<|qf 9 6<|qg 1<|ql 9<|qm 12<|qi 9<|qg 1<|qJ 7<|qc 40<|za 1<|ya<|qf 9 6<|qg 1<|ql 9<|qm 12<|qi 9<|qg 1<|qg 1<|qj<|qm 6<|qq .gtr 19<|zA 11<|qe) <| cd 59 (r2 60 (qf 9 6<|qg 1<|ql 9<|qm 12<|qi 9<|qg 1<|qg 1<|qj<|qb 10 5<|qw 6<|qt 7 5 8<|qe)) .skip)) <| r1 69 (q1 (.bin .add (.g 21) (ci 1))<|qv 21<|qe))
def c610 : C := rs 0 (qB 2 0<|qB 3 1<|qG 4 z_8<|qF 5<|qe) <| i1 13 (qb 2 4<|qc 596<|qN<|qe) 15 (rs 16 (q1 (.build z_8 [])<|qt 4 5 0<|qF 5<|qe) .ret) <| rs 0 (qz 6 0<|qe) <| rs 0 (qG 7 z_8<|qe) <| sq (rs 17 (qr 2 0<|q3 (.sl false 38 (.l 1) (some (ci 1)) none)<|qH false<|q3 (.mov (ci 0))<|qe) <| bk 0 l610_0) <| rs 70 (qb 7 5<|qm 6<|qk .gtr 0<|qt 4 5 0<|qw 5<|qe) .ret
def F610 : F := mF 2 [.cell 4 (some 5),.t 5] none c610
attribute [go_sem] c610 F610
def c611 : C := rs 0 (qB 2 0<|qF 3<|qe) <| rs 4 (qR 2 2 2<|q1 (.load (.c) none (.g 1))<|qd 171<|qv 3<|qe) .ret
def F611 : F := mF 2 [.t 3] none c611
attribute [go_sem] c611 F611
def c612 : C := rs 0 (qF 2<|qe) <| rs 3 (qm 0<|qk .geq 1<|ya<|qm 0<|qk .leq 8<|za 2<|qv 2<|qe) .ret
def F612 : F := mF 1 [.t 2] none c612
attribute [go_sem] c612 F612
def c613 : C := rs 0 (qB 2 0<|qB 3 1<|qG 4 z_35<|qz 5 0<|qe) <| sq (rs 7 (qb 2 18<|qc 626<|qv 6<|qe) <| rs 9 (qm 6<|qK .neq 0<|qe) <| cd 10 (rs 11 (qb 2 18<|qm 6<|qt 4 18 0<|qw 5<|qe) .ret) .skip) <| rs 13 (qb 2 18<|qb 3 12<|qC 627 [.l 0,.l 1,cb false]<|qx 0<|qy 1<|qt 4 18 3<|qw 5<|qe) .ret
def F613 : F := mF 2 [.cell 4 (some 18),.t 5] none c613
attribute [go_sem] c613 F613
def c614 : C := rs 0 (qB 3 0<|qG 6 z_35<|qz 7 0<|qe) <| sq (rs 9 (qb 3 18<|qc 626<|qv 8<|qe) <| rs 11 (qm 8<|qK .neq 0<|qe) <| cd 12 (rs 13 (qb 3 18<|qm 8<|qt 6 18 0<|qw 7<|qe) .ret) .skip) <| rs 15 (qb 3 18<|qm 1<|qm 2<|q1 (.build z_24 [(3,1,.l 1),(10,1,.l 2)])<|qC 627 [.l 0,.l 3,cb true]<|qx 0<|qy 1<|qt 6 18 5<|qw 7<|qe) .ret
def F614 : F := mF 3 [.cell 6 (some 18),.t 7] none c614
attribute [go_sem] c614 F614
def c615 : C := rs 0 (qB 2 0<|qS 4 36<|qe) <| i1 5 (qb 2 18<|qc 628<|qn<|yo<|qm 1<|qk .lss 0<|zo 3<|yo<|qm 1<|qk .gtr 1099511627776<|zO 7<|qe) 15 (rs 0 (qS 4 36<|qe) .ret) <| rs 16 (qr 2 0<|q1 (.bin .add (ci 10) (.l 1))<|qm 1<|q1 (.build z_17 [(0,1,.c (.int .i64 7)),(1,1,.l 2),(6,1,.l 3)])<|q1 (.mks 36 1 z_17 [(0,.l 4)])<|qv 4<|qe) .ret
def F615 : F := mF 2 [.t 4] none c615
attribute [go_sem] c615 F615
def b616_0 : C := rs 13 (q3 (.bin .lss (.g 12) (.g 11))<|qe) <| sq (cd 13 .skip <| .exit 0) <| sq (bk 1 (rs 14 (q1 (.iad 36 (.g 10) (.g 12))<|qJ 36<|qG 5 z_17<|qs 5 36 2 1<|qe) <| rs 17 (qb 5 36<|qc 529<|q2 16 (.mov (.l 1))<|qx 0<|qy 1<|qw 6<|qw 7<|qe) <| rs 22 (qm 6<|qc 570<|q2 21 (.mov (.l 1))<|qx 0<|qy 1<|qw 8<|qw 9<|qe) <| rs 26 (qm 0<|q1 (.nilc (.l 0))<|qg 0<|qg 3<|ql 0<|qh false<|qk .lss 256<|ya<|qm 7<|qk .eql 0<|za 7<|ya<|qm 9<|qk .eql 0<|zA 11<|qe) <| cd 40 (r1 41 (qm 0<|qm 0<|q1 (.nilc (.l 1))<|qg 0<|qg 3<|ql 0<|qm 8<|q1 (.mks 1 1 [.str []] [(0,.l 6)])<|q1 (.appd 1 (.l 5) (.l 7))<|q1 (.nilc (.l 0))<|qg 0<|qg 3<|qs 0 1 11 8<|qe)) .skip)) <| r1 53 (q1 (.bin .add (.g 12) (ci 1))<|qv 12<|qe)
def l616_0 : C := .loop [] [0,0,9000,0,1,9001,0,2,9002,0,3,9003,0,4,9004] [5] [] b616_0
def c616 : C := rs 10 (q3 (.mov (.g 1))<|qH false<|q3 (.mov (ci 0))<|qe) <| bk 0 l616_0
def F616 : F := mF 2 [] none c616
attribute [go_sem] b616_0 c616 F616
def c617 : C := rs 8 (qm 0<|q1 (.nilc (.l 0))<|qg 0<|qg 1<|ql 0<|qm 1<|qk .sub 1<|q1 (.iad 18 (.l 4) (.l 6))<|q1 (.load (.x) (some 18) (.l 7))<|qc 629<|q2 7 (.mov (.l 9))<|qx 0<|qy 1<|qY 10 2<|qG 4 z_35<|qG 6 z_40<|qs 4 18 14 11<|qV 5 12<|qs 6 24 15 13<|qe) <| rt 21 (qm 0<|q1 (.nilc (.l 0))<|qg 0<|qg 1<|ql 0<|qm 1<|qk .sub 1<|qb 4 18<|q1 (.iad 18 (.l 4) (.l 6))<|q5 (.store (.x) 18 (.l 8) (.l 7))<|qe) <| rs 30 (qm 0<|qm 5<|q1 (.rcall 616 [.l 0,.l 1] 0 0 20000)<|qe) <| r1 33 (qm 0<|qm 1<|qb 6 24<|q1 (.rcall 630 [.l 0,.l 1,.l 2] 0 0 20100)<|qe)
def F617 : F := mF 2 [] none c617
attribute [go_sem] c617 F617
def c618 : C := rs 0 (qF 2<|qe) <| rs 3 (qm 0<|qk .geq 0<|ya<|qm 0<|qk .leq 3<|za 2<|qv 2<|qe) .ret
def F618 : F := mF 1 [.t 2] none c618
attribute [go_sem] c618 F618
def c619 : C := rs 0 (qz 4 0<|qe) <| rs 9 (qm 0<|q1 (.nilc (.l 0))<|qg 0<|qg 0<|ql 0<|qm 1<|qi 38<|q1 (.load (.x) (some 38) (.l 6))<|qc 726<|q2 8 (.mov (.l 8))<|qx 0<|qy 1<|qY 9 2<|qG 5 z_31<|qs 5 38 13 10<|qV 6 11<|qV 7 12<|qe) <| rt 21 (qm 0<|q1 (.nilc (.l 0))<|qg 0<|qg 0<|ql 0<|qm 1<|qb 5 38<|q1 (.iad 38 (.l 4) (.l 5))<|q5 (.store (.x) 38 (.l 7) (.l 6))<|qe) <| rs 29 (qm 0<|qm 6<|q1 (.rcall 616 [.l 0,.l 1] 0 0 20000)<|qe) <| rs 32 (qm 7<|qv 4<|qe) .ret
def F619 : F := mF 2 [.t 4] none c619
attribute [go_sem] c619 F619
def c723 : C := rs 0 (qB 2 0<|qG 4 z_31<|qe) <| i1 5 (qb 2 38<|q3 (.call (.k 556) .no none [.l 0])<|qe) 6 (r1 7 (qR 2 1 5<|qm 1<|qd 557<|qf 2 1<|qs 2 5 4 3<|qe)) <| rs 12 (qb 2 38<|qt 4 38 0<|qe) .ret
def F723 : F := mF 2 [.cell 4 (some 38)] none c723
attribute [go_sem] c723 F723
def c724 : C := rs 0 (qB 2 0<|qG 4 z_31<|qz 5 0<|qe) <| i1 14 (qb 2 38<|qc 556<|qN<|qe) 16 (rs 17 (qb 2 38<|qt 4 38 0<|qz 5 1<|qe) .ret) <| rs 18 (qf 2 37<|q5 (.store (.v 2) 1 (.l 0) (cb false))<|qe) <| rs 20 (qR 2 1 5<|qm 1<|qd 563<|qc 564<|q2 19 (.mov (.l 4))<|qx 0<|qy 1<|qY 5 2<|qG 6 z_30<|qs 6 5 9 6<|qV 7 7<|qV 8 8<|qe) <| rs 28 (qb 6 5<|qf 2 1<|qs 2 5 1 0<|qe) <| sq (bk 0 (rs 31 (qm 8<|qk .neq 0<|qv 30<|qe) <| cd 30 (rs 33 (qb 2 38<|qm 8<|qt 4 38 0<|qw 5<|qe) .ret) <| rs 36 (qm 7<|qh false<|qk .eql 0<|qv 35<|qe) <| cd 35 (rs 39 (qb 2 38<|qt 4 38 0<|qz 5 3<|qe) .ret) .skip)) <| rs 40 (qm 7<|qm 7<|qh false<|qk .sub 1<|q1 (.iad 1 (.l 0) (.l 3))<|qj<|qv 9<|qe) <| sq (rs 46 (qr 2 0<|qK .eql 0<|qe) <| cd 48 (rs 50 (qm 9<|qc 517<|q2 49 (.mov (.l 1))<|qx 0<|qy 1<|qG 10 z_13<|qs 10 29 5 3<|qV 11 4<|qe) <| i1 54 (qm 11<|qK .neq 0<|qe) 55 (rs 56 (qb 2 38<|qm 11<|qt 4 38 0<|qw 5<|qe) .ret) <| r1 58 (qb 10 29<|qf 2 8<|qs 2 29 1 0<|qe)) <| rs 61 (qm 9<|qc 512<|q2 60 (.mov (.l 1))<|qx 0<|qy 1<|qG 12 z_20<|qs 12 2 5 3<|qV 13 4<|qe) <| i1 65 (qm 13<|qk .neq 0<|yo<|qr 12 0<|qr 2 0<|qq .neq 4<|zO 2<|qe) 73 (rs 74 (qb 2 38<|qt 4 38 0<|qz 5 3<|qe) .ret) <| r1 75 (qb 12 2<|qf 2 6<|qs 2 2 1 0<|qe)) <| rs 77 (qf 2 37<|q5 (.store (.v 2) 1 (.l 0) (cb true))<|qe) <| rs 78 (qb 2 38<|qt 4 38 0<|qz 5 0<|qe) .ret
def F724 : F := mF 2 [.cell 4 (some 38),.t 5] none c724
attribute [go_sem] c724 F724
def c620 : C := rs 0 (qz 4 0<|qe) <| rs 18 (qm 0<|q1 (.nilc (.l 0))<|qg 0<|qg 3<|ql 0<|qm 1<|qi 1<|q1 (.load (.x) none (.l 6))<|qv 5<|qe) <| rs 26 (qm 0<|qm 0<|q1 (.nilc (.l 1))<|qg 0<|qg 3<|ql 0<|qm 1<|qm 1<|qk .add 1<|q1 (.del 621 9003 1 (.l 5) (.l 6) (.l 8))<|q1 (.nilc (.l 0))<|qg 0<|qg 3<|qs 0 1 12 9<|qe) <| rs 40 (qm 5<|q1 (.call (.k 585) .borrow none [.l 0])<|q2 39 (.mov (.l 1))<|qx 0<|qy 1<|qY 2 2<|qV 6 3<|qD 7<|q1 (.mov (.l 4))<|q1 (.mov (.l 5))<|qe) <| rs 46 (qm 6<|q1 (.call (.k 566) .freeze none [.l 0])<|q2 45 (.mov (.l 1))<|qx 0<|qy 1<|qG 9 z_17<|qs 9 36 5 3<|qD 10<|q1 (.mov (.l 4))<|qe) <| sq (rs 50 (qr 9 2<|qk .sub 10<|qv 11<|qe) <| rs 53 (qm 11<|q3 (.call (.k 612) .borrow none [.l 0])<|qe) <| cd 54 (rt 56 (qm 0<|q1 (.nilc (.l 0))<|qg 0<|qg 1<|ql 0<|qm 11<|qk .sub 1<|q1 (.iad 18 (.l 4) (.l 6))<|q1 (.load (.x) (some 18) (.l 7))<|qb 9 36<|q1 (.call (.k 632) .freeze none [.l 8,.l 9])<|q2 55 (.mov (.l 10))<|qx 0<|qy 1<|qY 11 2<|qG 12 z_35<|qG 14 z_40<|qs 12 18 15 12<|qV 13 13<|qs 14 24 16 14<|qe) <| rt 70 (qm 0<|q1 (.nilc (.l 0))<|qg 0<|qg 1<|ql 0<|qm 11<|qk .sub 1<|qb 12 18<|q1 (.iad 18 (.l 4) (.l 6))<|q5 (.store (.x) 18 (.l 8) (.l 7))<|qe) <| rs 79 (qm 0<|qm 13<|q1 (.rcall 616 [.l 0,.l 1] 0 0 20000)<|qe) <| rs 82 (qm 0<|qm 11<|qb 14 24<|q1 (.rcall 630 [.l 0,.l 1,.l 2] 0 0 20100)<|qe) <| rs 0 (qz 4 0<|qe) .ret) .skip) <| i1 86 (qr 9 2<|q1 (.call (.k 618) .borrow none [.l 1])<|qN<|qe) 89 (rs 0 (qz 4 0<|qe) .ret) <| rt 91 (qm 0<|q1 (.nilc (.l 0))<|qg 0<|qg 0<|ql 0<|qr 9 2<|q1 (.iad 38 (.l 4) (.l 6))<|q1 (.load (.x) (some 38) (.l 7))<|qm 0<|q1 (.nilc (.l 9))<|qg 0<|qg 2<|ql 0<|qr 9 2<|q1 (.iad 1 (.l 13) (.l 15))<|q1 (.load (.x) none (.l 16))<|qb 9 36<|q1 (.call (.k 727) .freeze none [.l 8,.l 17,.l 18])<|q2 90 (.mov (.l 19))<|qx 0<|qy 1<|qY 20 2<|qG 15 z_31<|qs 15 38 24 21<|qV 16 22<|qV 17 23<|qe) <| rt 114 (qm 0<|q1 (.nilc (.l 0))<|qg 0<|qg 0<|ql 0<|qr 9 2<|qb 15 38<|q1 (.iad 38 (.l 4) (.l 6))<|q5 (.store (.x) 38 (.l 8) (.l 7))<|qe) <| rs 123 (qm 0<|qm 16<|q1 (.rcall 616 [.l 0,.l 1] 0 0 20200)<|qe) <| rs 126 (qm 17<|qv 4<|qe) .ret
def F620 : F := mF 2 [.t 4] none c620
attribute [go_sem] c620 F620
def c725 : C := rs 0 (qB 2 0<|qG 4 z_31<|qz 5 0<|qe) <| rs 8 (qm 1<|q1 (.inv [(155,553),(192,554)] (.l 0) [])<|qv 6<|qe) <| i1 10 (qm 6<|qb 2 38<|qc 722<|q1 (.inv [(155,553),(192,554)] (.l 2) [])<|qQ .eql 0<|qe) 14 (rs 15 (qb 2 38<|qt 4 38 0<|qz 5 0<|qe) .ret) <| rs 0 (qz 7 0<|qe) <| sq (rs 16 (qf 2 1<|qg 0<|ql 2<|qh true<|qf 2 1<|qg 1<|ql 2<|qh true<|qq .add 3<|qK .gtr 16384<|qe) <| cd 25 (r1 27 (qR 2 1 5<|qm 6<|qd 575<|q2 26 (.mov (.l 3))<|qx 0<|qy 1<|qf 2 1<|qs 2 5 7 5<|qV 7 6<|qe)) <| r1 35 (qR 2 1 5<|qm 6<|qd 555<|q2 34 (.mov (.l 3))<|qx 0<|qy 1<|qf 2 1<|qs 2 5 7 5<|qV 7 6<|qe)) <| i1 42 (qm 7<|qK .neq 0<|qe) 43 (rs 44 (qm 7<|qk .neq 16<|qf 2 37<|qs 2 1 2 1<|qe) <| rs 47 (qb 2 38<|qm 7<|qt 4 38 0<|qw 5<|qe) .ret) <| rs 49 (qb 2 38<|qm 1<|qd 728<|qt 4 38 2<|qz 5 0<|qe) .ret
def F725 : F := mF 2 [.cell 4 (some 38),.t 5] none c725
attribute [go_sem] c725 F725
def c622 : C := rs 0 (qB 1 0<|qE 2<|qe) <| i1 3 (qr 1 0<|qK .eql 0<|qe) 5 (rs 6 (qR 1 8 29<|qc 518<|qv 2<|qe) .ret) <| rs 9 (qR 1 6 2<|qc 513<|qv 2<|qe) .ret
def F622 : F := mF 1 [.t 2] none c622
attribute [go_sem] c622 F622
def c623 : C := rs 0 (qB 2 0<|qG 4 z_30<|qz 5 0<|qe) <| i1 8 (qm 1<|qh true<|qK .gtr 1048576<|qe) 10 (rs 11 (qb 2 5<|qt 4 5 0<|qz 5 5<|qe) .ret) <| rt 13 (qb 2 5<|qm 1<|qc 624<|qC 633 [.l 0,ci 0,.l 2,ci 0]<|q2 12 (.mov (.l 3))<|qx 0<|qy 1<|qG 6 z_30<|qs 6 5 7 5<|qV 7 6<|qe) <| i1 19 (qm 7<|qK .neq 0<|qe) 20 (rs 21 (qb 6 5<|qm 7<|qt 4 5 0<|qw 5<|qe) .ret) <| rs 23 (qb 6 5<|qC 633 [.l 0,ci 1,.c (.str []),ci 0]<|qx 0<|qy 1<|qt 4 5 2<|qw 5<|qe) .ret
def F623 : F := mF 2 [.cell 4 (some 5),.t 5] none c623
attribute [go_sem] c623 F623
def c624 : C := rs 0 (qE 2<|qe) <| rs 4 (qm 0<|qc 503<|qv 3<|qe) <| rs 6 (qm 3<|qm 3<|qc 634<|qc 635<|qq .add 0<|qv 2<|qe) .ret
def F624 : F := mF 1 [.t 2] none c624
attribute [go_sem] c624 F624
def c625 : C := rs 0 (qB 2 0<|qF 3<|qe) <| rs 4 (qr 2 0<|q1 (.load (.c) none (.g 1))<|qq .eql 1<|qv 3<|qe) .ret
def F625 : F := mF 2 [.t 3] none c625
attribute [go_sem] c625 F625
def c626 : C := rs 0 (qB 1 0<|qz 2 0<|qe) <| sq (bk 0 (rs 4 (qb 1 18<|qc 628<|qn<|qv 3<|qe) <| cd 3 (rs 0 (qz 2 1<|qe) .ret) <| rs 8 (qf 1 4<|qg 1<|ql 1<|qk .neq 0<|qv 7<|qe) <| cd 7 (rs 0 (qz 2 11<|qe) .ret) <| rs 13 (qr 1 1<|qk .eql 1099511627776<|qv 12<|qe) <| cd 12 (rs 0 (qz 2 6<|qe) .ret) .skip)) <| rs 0 (qz 2 0<|qe) .ret
def F626 : F := mF 1 [.t 2] none c626
attribute [go_sem] c626 F626
def c627 : C := rs 0 (qB 3 0<|qB 4 1<|qG 6 z_35<|qz 7 0<|qe) <| rs 9 (qb 3 18<|qG 8 z_35<|qs 8 18 1 0<|qe) <| rt 10 (qr 3 0<|qr 3 1<|qf 4 0<|qs 4 1 4 1<|qf 4 1<|qs 4 1 6 3<|qe) <| rs 16 (qb 4 12<|qm 2<|qf 8 4<|qs 8 12 2 0<|qf 8 16<|qs 8 1 4 1<|qf 8 17<|qu 8 6 12<|qe) <| rs 21 (qr 8 1<|qk .add 1<|qf 8 1<|qs 8 1 3 2<|qe) <| i1 25 (qb 8 18<|qc 628<|qN<|qe) 27 (rs 28 (qb 3 18<|qt 6 18 0<|qz 7 1<|qe) .ret) <| rs 29 (qb 8 18<|qt 6 18 0<|qz 7 0<|qe) .ret
def F627 : F := mF 3 [.cell 6 (some 18),.t 7] none c627
attribute [go_sem] c627 F627
def c628 : C := rs 0 (qB 1 0<|qF 2<|qe) <| i1 3 (qr 1 0<|qk .lss 1<|yo<|qr 1 0<|qk .gtr 8<|zo 3<|yo<|qr 1 1<|qk .lss 1<|zo 8<|yo<|qr 1 1<|qk .gtr 1099511627776<|zo 13<|yo<|qr 1 17<|qk .lss 0<|zo 18<|yo<|qr 1 17<|qk .gtr 12<|zO 23<|qe) 30 (rs 0 (qF 2<|qe) .ret) <| i1 31 (qr 1 2<|qh false<|qr 1 3<|qh false<|qq .add 2<|qk .gtr 0<|ya<|qr 1 2<|qr 1 3<|qC 636 (ls [10,12])<|qn<|zA 8<|qe) 46 (rs 0 (qF 2<|qe) .ret) <| sq (bk 0 (rs 48 (qf 1 4<|qg 1<|ql 1<|qk .eql 0<|qv 47<|qe) <| cd 47 (rs 0 (qT 2<|qe) .ret) <| rs 53 (qf 1 4<|qg 0<|ql 1<|qr 1 0<|qq .neq 2<|yo<|qf 1 4<|qg 1<|ql 1<|qk .lss 1<|zo 6<|yo<|qf 1 4<|qg 1<|ql 1<|qr 1 1<|qq .geq 15<|zo 12<|qv 52<|qe) <| cd 52 (rs 0 (qF 2<|qe) .ret) <| rs 74 (qr 1 16<|qv 73<|qe) <| cd 73 (rs 76 (qf 1 4<|qg 2<|ql 1<|qk .eql 0<|ya<|qf 1 4<|qg 3<|ql 1<|qf 1 4<|qg 10<|ql 1<|q1 (.build z_1 [(0,1,.l 7),(1,1,.l 10)])<|qc 186<|za 4<|qv 2<|qe) .ret) .skip)) <| rs 90 (qR 1 4 12<|qc 285<|qv 2<|qe) .ret
def F628 : F := mF 1 [.t 2] none c628
attribute [go_sem] c628 F628
def c629 : C := rs 0 (qB 1 0<|qG 2 z_35<|qS 3 36<|qG 4 z_40<|qe) <| sq (bk 0 (rs 6 (qb 1 18<|qc 628<|qn<|yo<|qf 1 4<|qg 1<|ql 1<|qk .eql 0<|zo 3<|qv 5<|qe) <| cd 5 (rs 15 (qb 1 18<|q1 (.build z_40 [])<|qt 2 18 0<|qS 3 36<|qt 4 24 1<|qe) .ret) <| rs 18 (qr 1 17<|qk .eql 0<|qv 17<|qe) <| cd 17 (rs 21 (qb 1 18<|q1 (.build z_9 [(0,1,.c (.int .i64 14))])<|qC 637 [.l 0,.l 1,ci 0]<|qx 0<|qy 1<|qY 2 2<|qt 2 18 3<|qV 3 4<|qt 4 24 5<|qe) .ret) .skip)) <| rs 27 (qr 1 17<|qk .sub 1<|qf 1 17<|qs 1 1 3 2<|qe) <| rt 31 (qb 1 18<|qb 1 18<|qc 638<|q1 (.build z_40 [])<|qt 2 18 0<|qV 3 2<|qt 4 24 3<|qe) .ret
def F629 : F := mF 1 [.cell 2 (some 18),.t 3,.cell 4 (some 24)] none c629
attribute [go_sem] c629 F629
def c630 : C := rs 0 (qB 5 2<|qe) <| rs 6 (qf 5 0<|q3 (.load (.v 5) none (.l 0))<|qe) <| cd 7 (r2 8 (qm 0<|qm 0<|q1 (.nilc (.l 1))<|qg 4<|ql 0<|qm 1<|qb 5 24<|q1 (.build z_41 [(0,1,.l 5),(1,24,.l 6)])<|q1 (.mks 25 1 z_41 [(0,.l 7)])<|q1 (.appd 25 (.l 4) (.l 8))<|q1 (.nilc (.l 0))<|qg 4<|qs 0 1 11 9<|qe)) .skip
def F630 : F := mF 3 [] none c630
attribute [go_sem] c630 F630
def c726 : C := rs 0 (qB 1 0<|qG 2 z_31<|qS 3 36<|qz 4 0<|qe) <| sq (rs 9 (qb 1 38<|qc 558<|qv 5<|qe) <| rs 11 (qm 5<|qK .neq 0<|qe) <| cd 12 (rs 13 (qb 1 38<|qm 5<|qt 2 38 0<|qS 3 36<|qV 4 1<|qe) .ret) .skip) <| rs 16 (qb 1 38<|qc 722<|q1 (.inv [(155,729),(192,730)] (.l 1) [])<|q2 15 (.mov (.l 2))<|qx 0<|qy 1<|qw 6<|qw 7<|qe) <| rs 22 (qb 1 38<|qm 6<|qd 725<|q2 21 (.mov (.l 2))<|qx 0<|qy 1<|qt 1 38 4<|qw 8<|qe) <| rs 27 (qb 1 38<|qm 7<|qm 8<|qC 562 (ls [0,1,2])<|qx 0<|qy 1<|qY 3 2<|qt 2 38 4<|qV 3 5<|qV 4 6<|qe) .ret
def F726 : F := mF 1 [.cell 2 (some 38),.t 3,.t 4] none c726
attribute [go_sem] c726 F726
def c632 : C := rs 0 (qB 2 0<|qB 3 1<|qG 4 z_35<|qS 5 36<|qG 6 z_40<|qe) <| i1 9 (qb 2 18<|qc 628<|qn<|yo<|qb 3 36<|qc 341<|qn<|zo 3<|yo<|qr 3 2<|qr 2 0<|q1 (.bin .add (ci 10) (.l 12))<|qq .neq 10<|zO 8<|qe) 24 (rs 25 (qb 2 18<|q1 (.build z_40 [])<|qt 4 18 0<|qS 5 36<|qt 6 24 1<|qe) .ret) <| rs 27 (qf 2 4<|qg 1<|ql 2<|qk .neq 0<|ya<|qr 2 16<|qn<|za 4<|qv 7<|qe) <| sq (rs 36 (qf 3 0<|q3 (.load (.v 3) none (.l 0))<|qe) <| bk 0 (rs 39 (q1 (.bin .eql (.g 37) (ci 4))<|qv 38<|qe) <| cd 38 (i1 40 (qr 3 34<|qr 3 35<|qC 636 (ls [1,3])<|qN<|qe) 45 (.exit 0) <| rt 46 (qr 3 34<|qc 179<|qr 3 35<|qc 69<|qf 2 2<|qs 2 1 6 2<|qf 2 3<|qs 2 1 8 5<|qe) <| rs 54 (qm 7<|ya<|qr 2 17<|qk .gtr 0<|zA 1<|qe) <| cd 59 (rt 60 (qb 2 18<|qb 2 18<|qc 638<|q1 (.build z_40 [])<|qt 4 18 0<|qV 5 2<|qt 6 24 3<|qe) .ret) .skip) <| rs 65 (q1 (.bin .eql (.g 37) (ci 2))<|qv 64<|qe) <| cd 64 (i1 66 (qm 7<|qn<|yo<|qf 3 13<|qg 0<|ql 3<|qr 2 0<|qq .neq 5<|zo 2<|yo<|qf 3 13<|qg 1<|ql 3<|qf 2 4<|qg 1<|ql 2<|qq .neq 13<|zO 10<|qe) 84 (.exit 0) <| rs 85 (qf 3 25<|qg 0<|q3 (.load (.v 3) none (.l 1))<|qe) <| bk 1 (rs 96 (q1 (.bin .eql (.g 87) (ci 10))<|qv 95<|qe) <| cd 95 (r1 97 (qf 2 2<|q5 (.store (.v 2) 1 (.l 0) (.c (.slice 5 [])))<|qf 2 3<|q5 (.store (.v 2) 1 (.l 2) (.c (.slice 1 [])))<|qe)) <| rs 100 (q1 (.bin .eql (.g 87) (ci 11))<|qv 99<|qe) <| cd 99 .skip <| rs 88 (qb 2 18<|qR 3 25 9<|qC 637 [.l 0,.l 2,ci 0]<|qx 0<|qy 1<|qY 3 2<|qt 4 18 4<|qV 5 5<|qt 6 24 6<|qe) .ret)) <| rs 102 (q1 (.bin .eql (.g 37) (ci 6))<|qv 101<|qe) <| cd 101 (rs 103 (qf 2 4<|qg 1<|ql 2<|qk .neq 0<|ya<|qr 2 16<|za 4<|ya<|qr 3 7<|qf 2 4<|qg 1<|ql 2<|qq .eql 10<|zA 8<|qe) <| cd 118 (rs 119 (qR 3 25 9<|qG 8 z_9<|qs 8 9 2 1<|qe) <| rs 121 (qR 3 9 3<|qf 8 1<|qs 8 3 2 1<|qe) <| rs 124 (qb 2 18<|qb 8 9<|qr 3 6<|qC 637 (ls [0,1,3])<|qx 0<|qy 1<|qY 4 2<|qt 4 18 5<|qV 5 6<|qt 6 24 7<|qe) .ret) .skip) .skip)) <| rs 132 (qb 2 18<|q1 (.build z_40 [])<|qt 4 18 0<|qS 5 36<|qt 6 24 1<|qe) .ret
def F632 : F := mF 2 [.cell 4 (some 18),.t 5,.cell 6 (some 24)] none c632
attribute [go_sem] c632 F632
def c727 : C := rs 0 (qB 3 0<|qB 5 2<|qG 6 z_31<|qS 7 36<|qz 8 0<|qe) <| sq (rs 13 (qb 3 38<|qc 558<|qv 9<|qe) <| rs 15 (qm 9<|qK .neq 0<|qe) <| cd 16 (rs 17 (qb 3 38<|qm 9<|qt 6 38 0<|qS 7 36<|qV 8 1<|qe) .ret) .skip) <| rt 20 (qb 3 38<|qc 722<|qm 1<|qb 5 36<|q1 (.inv [(155,731),(192,732)] (.l 1) [.l 2,.l 3])<|q2 19 (.mov (.l 4))<|qx 0<|qy 1<|qw 10<|qw 11<|qe) <| rs 28 (qb 3 38<|qm 10<|qd 725<|q2 27 (.mov (.l 2))<|qx 0<|qy 1<|qt 3 38 4<|qw 12<|qe) <| rs 33 (qb 3 38<|qm 11<|qm 12<|qC 562 (ls [0,1,2])<|qx 0<|qy 1<|qY 3 2<|qt 6 38 4<|qV 7 5<|qV 8 6<|qe) .ret
def F727 : F := mF 3 [.cell 6 (some 38),.t 7,.t 8] none c727
attribute [go_sem] c727 F727
def c728 : C := rs 0 (qB 2 0<|qG 4 z_31<|qe) <| sq (rs 8 (qm 1<|q1 (.asr 155 (some z_13) (.l 0))<|q2 7 (.mov (.l 1))<|qx 0<|qy 1<|qG 5 z_13<|qs 5 29 5 3<|qV 6 4<|qe) <| rs 12 (q3 (.mov (.g 6))<|qe) <| cd 12 (rs 13 (qR 5 0 29<|qf 2 8<|qs 2 29 2 1<|qe) <| rs 16 (qb 2 38<|qt 4 38 0<|qe) .ret) .skip) <| rs 17 (qm 1<|q1 (.asr 192 none (.l 0))<|q1 (.fld (.l 1) 0 (some 2))<|qf 2 6<|qs 2 2 3 2<|qe) <| rs 21 (qb 2 38<|qt 4 38 0<|qe) .ret
def F728 : F := mF 2 [.cell 4 (some 38)] none c728
attribute [go_sem] c728 F728
def c633 : C := rs 0 (qB 4 0<|qG 8 z_30<|qz 9 0<|qe) <| i1 11 (qb 4 5<|qc 641<|qN<|qe) 13 (rs 14 (qb 4 5<|qt 8 5 0<|qz 9 1<|qe) .ret) <| i1 15 (qf 4 4<|q3 (.load (.v 4) none (.l 0))<|qe) 16 (rs 17 (qb 4 5<|qt 8 5 0<|qz 9 16<|qe) .ret) <| rs 18 (qr 4 0<|qh true<|qr 4 1<|qh true<|qq .add 2<|qv 10<|qe) <| i1 25 (qm 1<|qk .eql 0<|ya<|qm 2<|qh true<|qm 10<|q1 (.bin .sub (ci 1048576) (.l 5))<|qq .gtr 4<|za 2<|yo<|qm 1<|qk .eql 3<|ya<|qm 2<|qh true<|qk .gtr 1048576<|y0 9<|qa 12<|zO 9<|qe) 42 (rs 43 (qb 4 5<|qt 8 5 0<|qz 9 6<|qe) .ret) <| i1 44 (qm 1<|qk .eql 2<|ya<|qm 3<|qk .lss 0<|yo<|qm 3<|qm 10<|qq .gtr 6<|y1 2<|qo 5<|zA 2<|qe) 54 (rs 55 (qb 4 5<|qt 8 5 0<|qz 9 1<|qe) .ret) <| i1 56 (qr 4 3<|ya<|qr 4 2<|qk .lss 1<|zA 2<|qe) 62 (rs 63 (qf 4 4<|q5 (.store (.v 4) 1 (.l 0) (cb true))<|qe) <| rs 64 (qb 4 5<|qt 8 5 0<|qz 9 16<|qe) .ret) <| i1 65 (qf 4 3<|q3 (.load (.v 4) none (.l 0))<|qe) 66 (r1 67 (qr 4 2<|qk .sub 1<|qf 4 2<|qs 4 1 3 2<|qe)) <| i1 71 (qm 1<|qK .eql 0<|qe) 72 (rs 73 (qr 4 1<|qm 2<|qq .add 1<|qf 4 1<|qs 4 1 4 3<|qe) <| rs 78 (qb 4 5<|qt 8 5 0<|qz 9 0<|qe) .ret) <| rs 79 (qr 4 0<|qr 4 1<|qq .add 1<|qf 4 0<|qs 4 1 5 4<|qe) <| rs 85 (qf 4 1<|q5 (.store (.v 4) 1 (.l 0) (.c (.str [])))<|qe) <| i1 86 (qm 1<|qK .eql 2<|qe) 87 (r1 88 (qr 4 0<|qm 3<|q1 (.sl true 0 (.l 1) none (some (.l 2)))<|qf 4 0<|qs 4 1 4 3<|qe)) <| i1 93 (qm 1<|qK .eql 3<|qe) 94 (r1 95 (qm 2<|qf 4 0<|qs 4 1 1 0<|qe)) <| rs 97 (qb 4 5<|qt 8 5 0<|qz 9 0<|qe) .ret
def F633 : F := mF 4 [.cell 8 (some 5),.t 9] none c633
attribute [go_sem] c633 F633
def l634_1 : C := .loop [] [] [] [] (lq 13 (qm 5<|qK .lss 8<|qe) 14 2 <| sq (bk 3 (rs 17 (qm 3<|qm 0<|qm 4<|q1 (.idx (.l 1) (.l 2))<|q1 (.conv (.int .i64) (.l 3))<|qm 5<|q1 (.sh .shr (.l 4) (.l 5))<|qq .add 0<|qk .rem 2<|qk .eql 1<|qv 6<|qe) <| rs 27 (qm 3<|qk .quo 2<|qv 3<|qe) <| rs 29 (q3 (.mov (.g 6))<|qe) <| cd 29 (r1 30 (qm 3<|qk .xor 2197175160<|qv 3<|qe)) .skip)) <| r1 15 (qm 5<|qk .add 1<|qv 5<|qe))
def l634_0 : C := .loop [] [] [] [] (lq 7 (qm 4<|qm 0<|qh true<|qQ .lss 0<|qe) 10 0 <| sq (bk 1 (rs 0 (qz 5 0<|qe) <| bk 2 l634_1)) <| r1 11 (qm 4<|qk .add 1<|qv 4<|qe))
def c634 : C := rs 2 (q3 (.mov (.c (.int .u32 0)))<|qe) <| rs 0 (qz 3 4294967295<|qe) <| sq (rs 0 (qz 4 0<|qe) <| bk 0 l634_0) <| rs 32 (qm 3<|q1 (.bin .sub (ci 4294967295) (.l 0))<|q1 (.conv (.int .u32) (.l 1))<|qv 2<|qe) .ret
def F634 : F := mF 1 [.t 2] none c634
attribute [go_sem] c634 F634
def c635 : C := rs 0 (qE 2<|qe) <| rs 4 (qm 0<|q1 (.conv (.int .i64) (.l 0))<|qv 3<|qe) <| rs 6 (qm 3<|qk .rem 256<|q1 (.conv (.int .u8) (.l 1))<|qm 3<|qk .quo 256<|qk .rem 256<|q1 (.conv (.int .u8) (.l 5))<|qm 3<|qk .quo 65536<|qk .rem 256<|q1 (.conv (.int .u8) (.l 9))<|qm 3<|qk .quo 16777216<|q1 (.conv (.int .u8) (.l 12))<|q1 (.mks 1 4 [.int .u8 0] [(0,.l 2),(1,.l 6),(2,.l 10),(3,.l 13)])<|q1 (.b2s (.l 14))<|qv 2<|qe) .ret
def F635 : F := mF 1 [.t 2] none c635
attribute [go_sem] c635 F635
def c636 : C := rs 0 (qF 4<|qe) <| rs 5 (qm 0<|qc 141<|ya<|qm 1<|qh false<|qk .eql 3<|za 2<|ya<|qm 1<|qC 67 [.l 8,.f 642]<|qn<|za 7<|qv 4<|qe) .ret
def F636 : F := mF 2 [.t 4] none c636
attribute [go_sem] c636 F636
def c637 : C := rs 0 (qB 3 0<|qB 4 1<|qG 6 z_35<|qS 7 36<|qG 8 z_40<|qe) <| rs 10 (qR 3 4 12<|qr 3 16<|qb 4 9<|qm 2<|q1 (.build z_40 [(0,1,.c (.bool true)),(1,12,.l 1),(13,1,.l 3),(14,9,.l 4),(23,1,.l 5)])<|qG 9 z_40<|qs 9 24 7 6<|qe) <| rs 17 (q1 (.build z_24 [])<|qf 3 4<|qs 3 12 1 0<|qf 3 16<|q5 (.store (.v 3) 1 (.l 3) (cb false))<|qf 3 17<|qu 3 5 0<|qe) <| rt 21 (qb 3 18<|qb 9 24<|qt 6 18 0<|qS 7 36<|qt 8 24 1<|qe) .ret
def F637 : F := mF 3 [.cell 6 (some 18),.t 7,.cell 8 (some 24)] none c637
attribute [go_sem] c637 F637
def c638 : C := rs 0 (qB 1 0<|qS 2 36<|qe) <| rs 6 (qr 1 0<|q1 (.bin .add (ci 10) (.l 1))<|q1 (.build z_17 [(1,1,.l 2)])<|qG 3 z_17<|qs 3 36 4 3<|qe) <| rs 11 (qr 1 2<|qf 1 4<|qg 3<|ql 1<|qC 144 (ls [1,4])<|q2 10 (.mov (.l 5))<|qx 0<|qy 1<|qG 4 z_0<|qs 4 5 9 7<|qV 5 8<|qe) <| sq (bk 0 (rs 41 (qr 1 16<|qv 40<|qe) <| cd 40 (r2 43 (qf 1 4<|qg 1<|ql 1<|qR 1 4 12<|qf 3 0<|qu 3 5 5<|qf 3 7<|qs 3 1 7 2<|qf 3 13<|qs 3 12 9 4<|qe)) <| rs 52 (qm 5<|qn<|qv 51<|qe) <| cd 51 (r1 54 (qf 3 0<|qu 3 0 3<|qe)) <| r2 19 (qr 1 3<|qr 4 3<|qk .sub 1<|q1 (.iad 1 (.l 1) (.l 4))<|qj<|qr 4 3<|qr 4 2<|qr 4 4<|qR 1 4 12<|qf 3 0<|qu 3 15 1<|qf 3 2<|qs 3 1 17 6<|qf 3 7<|qs 3 1 19 8<|qf 3 3<|qs 3 1 21 10<|qf 3 4<|qs 3 1 23 12<|qf 3 13<|qs 3 12 25 14<|qe))) <| rs 55 (qb 3 36<|q1 (.mks 36 1 z_17 [(0,.l 0)])<|qv 2<|qe) .ret
def F638 : F := mF 1 [.t 2] none c638
attribute [go_sem] c638 F638
def c729 : C := rs 2 (qB 1 0<|q3 (.mov (.c (.niface)))<|q3 (.mov (.c (.slice 36 [])))<|qe) <| rs 7 (qR 1 0 29<|qc 335<|q2 6 (.mov (.l 2))<|qx 0<|qy 1<|qG 4 z_13<|qs 4 29 6 4<|qV 5 5<|qe) <| rs 12 (qb 4 29<|q1 (.build z_13 [(0,29,.l 0)])<|q1 (.mif 155 (.l 1))<|qm 5<|qw 2<|qw 3<|qe) .ret
def F729 : F := mF 1 [.t 2,.t 3] none c729
attribute [go_sem] c729 F729
def c730 : C := rs 2 (qB 1 0<|q3 (.mov (.c (.niface)))<|q3 (.mov (.c (.slice 36 [])))<|qe) <| rs 7 (qR 1 0 2<|qc 407<|q2 6 (.mov (.l 2))<|qx 0<|qy 1<|qG 4 z_20<|qs 4 2 6 4<|qV 5 5<|qe) <| rs 12 (qb 4 2<|q1 (.build z_20 [(0,2,.l 0)])<|q1 (.mif 192 (.l 1))<|qm 5<|qw 2<|qw 3<|qe) .ret
def F730 : F := mF 1 [.t 2,.t 3] none c730
attribute [go_sem] c730 F730
def c731 : C := rs 6 (qB 3 0<|qB 5 2<|q3 (.mov (.c (.niface)))<|q3 (.mov (.c (.slice 36 [])))<|qe) <| rs 11 (qR 3 0 29<|qb 5 36<|qd 340<|q2 10 (.mov (.l 3))<|qx 0<|qy 1<|qG 8 z_13<|qs 8 29 7 5<|qV 9 6<|qe) <| rs 17 (qb 8 29<|q1 (.build z_13 [(0,29,.l 0)])<|q1 (.mif 155 (.l 1))<|qm 9<|qw 6<|qw 7<|qe) .ret
def F731 : F := mF 3 [.t 6,.t 7] none c731
attribute [go_sem] c731 F731
def c732 : C := rs 6 (qB 3 0<|qB 5 2<|q3 (.mov (.c (.niface)))<|q3 (.mov (.c (.slice 36 [])))<|qe) <| rs 11 (qR 3 0 2<|qm 1<|qb 5 36<|qC 413 (ls [1,2,3])<|q2 10 (.mov (.l 4))<|qx 0<|qy 1<|qG 8 z_20<|qs 8 2 8 6<|qV 9 7<|qe) <| rs 18 (qb 8 2<|q1 (.build z_20 [(0,2,.l 0)])<|q1 (.mif 192 (.l 1))<|qm 9<|qw 6<|qw 7<|qe) .ret
def F732 : F := mF 3 [.t 6,.t 7] none c732
attribute [go_sem] c732 F732
def c641 : C := rs 0 (qB 1 0<|qF 2<|qe) <| i1 3 (qr 1 2<|qk .lss 0<|yo<|qr 1 2<|qk .gtr 1099511627776<|zo 3<|yo<|qr 1 2<|qk .gtr 0<|ya<|qr 1 3<|qn<|y0 8<|qa 12<|zO 8<|qe) 20 (rs 0 (qF 2<|qe) .ret) <| rs 21 (qr 1 0<|qh true<|qk .leq 1048576<|ya<|qr 1 1<|qh true<|qr 1 0<|qh true<|q1 (.bin .sub (ci 1048576) (.l 10))<|qq .leq 7<|za 4<|qv 2<|qe) .ret
def F641 : F := mF 1 [.t 2] none c641
attribute [go_sem] c641 F641
def c642 : C := rs 0 (qF 2<|qe) <| rs 3 (qm 0<|qk .lss 1<|yo<|qm 0<|qk .gtr 3<|zo 2<|qv 2<|qe) .ret
def F642 : F := mF 1 [.t 2] none c642
attribute [go_sem] c642 F642
end Sg
namespace Sg
open _root_.Go _root_.Go.RowKit _root_.Go.Proofs _root_.Go.Shelf
def renU:Shelf.Ren:=⟨fun|197=>137|260=>206|n=>n,fun|0=>0|3=>3|4=>4|5=>5|9=>9|21=>21|46=>333|105=>265|119=>357|138=>359|139=>360|n=>n,fun|3=>0|4=>1|n=>n⟩
set_option maxRecDepth 1000000 in
theorem lays197:Lays.n197 Tryz.prog renU where
 mixed:=by kernel_rfl
 f197:=Tryz.func137.trans (congrArg some (by kernel_rfl))
 f260:=Tryz.func206.trans (congrArg some (by kernel_rfl))
 t0:=Tryz.underlying0
 a0:=Tryz.isAgg0
 z0:=Tryz.sizeOf0
 v0:=Tryz.zeroValue0
 t3:=Tryz.underlying3
 a3:=Tryz.isAgg3
 z3:=Tryz.sizeOf3
 v3:=Tryz.zeroValue3
 t4:=Tryz.underlying4
 a4:=Tryz.isAgg4
 z4:=Tryz.sizeOf4
 v4:=Tryz.zeroValue4
 t5:=Tryz.underlying5
 a5:=Tryz.isAgg5
 z5:=Tryz.sizeOf5
 v5:=Tryz.zeroValue5
 t9:=Tryz.underlying9
 a9:=Tryz.isAgg9
 z9:=Tryz.sizeOf9
 v9:=Tryz.zeroValue9
 t21:=Tryz.underlying21
 a21:=Tryz.isAgg21
 z21:=Tryz.sizeOf21
 v21:=Tryz.zeroValue21
 t46:=Tryz.underlying333
 a46:=Tryz.isAgg333
 z46:=Tryz.sizeOf333
 v46:=Tryz.zeroValue333
 t105:=Tryz.underlying265
 a105:=Tryz.isAgg265
 z105:=Tryz.sizeOf265
 v105:=Tryz.zeroValue265
 t119:=Tryz.underlying357
 a119:=Tryz.isAgg357
 z119:=Tryz.sizeOf357
 t138:=Tryz.underlying359
 a138:=Tryz.isAgg359
 z138:=Tryz.sizeOf359
 v138:=Tryz.zeroValue359
 t139:=Tryz.underlying360
 a139:=Tryz.isAgg360
 z139:=Tryz.sizeOf360
 v139:=Tryz.zeroValue360
 g3:=by kernel_rfl
 g4:=by kernel_rfl
theorem dec_walk (s:ByteArray) (w:World) (hT:Lib.Utf8Tabs 0 1 w) :
  Calls Tryz.prog 137 #[.string s] w fun e w'=>e=.returned (.tuple #[.int .i32 (Lib.decodeGo s).1,.int .i64 (Lib.decodeGo s).2])∧Below w.heap.size w w':=
 Any.utf8_DecodeRuneInString lays197 s w hT
theorem tabs_st (w w':World) (h:Lib.Utf8Tabs 0 1 w) (hb:∀b,b<2→w'.heap[b]?=w.heap[b]?):Lib.Utf8Tabs 0 1 w':=by
 have e:∀b o,b<2→w'.cell? ⟨b,o,none⟩=w.cell? ⟨b,o,none⟩:=fun b o hlt=>by
  simp only[World.cell?,hb b hlt]
 exact⟨fun c hc=>by rw[e _ _ (by decide)];exact h.1 c hc,fun i hi=>by rw[e _ _ (by decide),e _ _ (by decide)];exact h.2 i hi⟩
def cxU (l:List (Nat×Nat)):Cx where
 fm:=fun n=>(look l n).getD 0
 tm:=fun n=>n
 gn:=2
 G:=Lib.Utf8Tabs 0 1
 Gst:=tabs_st
set_option maxRecDepth 1000000 in
theorem key_walk (s:ByteArray) (w:World) (hgn:2≤w.heap.size) (hT:Lib.Utf8Tabs 0 1 w)
  (hplain:∀(r n:Int) (w:World),2≤w.heap.size→Lib.Utf8Tabs 0 1 w→Calls Tryz.prog 138 #[.int .i32 r,.int .i64 n] w fun e w'=>e=.returned (.bool (plainR r n))∧Below w.heap.size w w') :
  Calls Tryz.prog 70 #[.string s] w fun e w'=>e=.returned (.bool (keyR s.data.toList))∧Below w.heap.size w w':=by
 have t0:=Tryz.underlying0;have t3:=Tryz.underlying3;have t4:=Tryz.underlying4;have t9:=Tryz.underlying9;have t21:=Tryz.underlying21
 have hu0:=run_underlying t0;have hu3:=run_underlying t3;have hu4:=run_underlying t4;have hu9:=run_underlying t9;have hu21:=run_underlying t21
 have mixed:Tryz.prog.follows .mixedOrders=true:=by kernel_rfl
 have a0:=Tryz.isAgg0;have z0:=Tryz.sizeOf0;have v0:=Tryz.zeroValue0
 have a3:=Tryz.isAgg3;have z3:=Tryz.sizeOf3;have v3:=Tryz.zeroValue3
 have a4:=Tryz.isAgg4;have z4:=Tryz.sizeOf4;have v4:=Tryz.zeroValue4
 have a9:=Tryz.isAgg9;have z9:=Tryz.sizeOf9;have v9:=Tryz.zeroValue9
 have a21:=Tryz.isAgg21;have z21:=Tryz.sizeOf21;have v21:=Tryz.zeroValue21
 go_enter Tryz.func70,Tryz.ntmps70
 go_wp2
 go_loopw [3] (fun _ wr=>∃(pos fuel:Nat),wr.heap[w.heap.size]?=some (.stringIter s pos)∧Below w.heap.size w wr∧keyAll fuel (s.data.toList.drop pos)=keyAll s.size s.data.toList∧s.size≤pos+fuel) (fun _ wr=>s.size-wr.iterPos w.heap.size)
 case atStart=>
  refine⟨0,s.size,?_,(Below.refl _ w).alloc (Nat.le_refl _) _,by simp,by omega⟩
  have:=World.iter_heap w s 0
  simpa using this
 case round=>
  obtain⟨pos,fuel,hit,hbw,hacc,hfu⟩:=hrel
  have hsz:w.heap.size<wr.heap.size:=(Array.getElem?_eq_some_iff.1 hit).1
  have hbT:∀W:World,Below w.heap.size w W→Lib.Utf8Tabs 0 1 W:=fun W h=>tabs_st w W hT fun b hb=>h.block b (by omega)
  by_cases hp:pos<s.size
  ·have hnx:∀ty,(Instr.next (.pointer (some ⟨w.heap.size,0,none⟩)) true ty).run Tryz.prog wr=_:=fun ty=>Lib.run_next_any_at wr w.heap.size s pos ty hit hp
   have hbw2:=Lib.below_iterAt hbw (k:=w.heap.size) (by omega) s (pos+(Utf8.decode s pos).2)
   have hit2:=Lib.iterAt_heap wr w.heap.size s pos (pos+(Utf8.decode s pos).2) hit
   have hsz2:w.heap.size+1≤(wr.iterAt w.heap.size s (pos+(Utf8.decode s pos).2)).heap.size:=by rw[Lib.iterAt_size];omega
   have hde:∀n,n=s.size→Lib.decodeGo (s.extract pos n)=Utf8.decode s pos:=fun n hn=>decode_extract s pos n hn hp
   have hw1:=width_pos s pos
   obtain⟨f,rfl⟩:∃f,fuel=f+1:=⟨fuel-1,by omega⟩
   have hnil:s.data.toList.drop pos≠[]:=fun e=>by
    exact drop_ne s pos hp e
   have hdN:=decode_drop s pos
   simp only[keyAll,hnil,if_false,←hdN] at hacc
   generalize Utf8.decode s pos=D at *
   clear hdN hnil
   obtain⟨D1,D2⟩:=D
   simp only at hw1 hacc hbw2 hit2 hsz2 hde hnx
   have hsl:=size_list s
   have hfin:∀W:World,plainR D1 D2=false→keyR s.data.toList=false:=fun W hpl=>by
    rw[hpl,Bool.false_and] at hacc;rw[keyR,hsl,←hacc,Bool.false_and]
   clear hsl
   go_wp2_with (go_at_call 137;refine (dec_walk _ _ (hbT _ hbw2)).mono ?_;rintro e W1 ⟨rfl,b1⟩)
   have hb3:=hbw2.trans (b1.mono (by omega))
   have hs3:W1.heap.size≥w.heap.size+1:=Nat.le_trans hsz2 b1.size
   have hit3:W1.heap[w.heap.size]?=some (.stringIter s (pos+D2)):=(b1.block _ (by omega)).trans hit2
   have hpl:=hplain D1 D2 W1 (by omega) (hbT _ hb3)
   cases hP:plainR D1 D2 with
   |false=>
    rw[hP] at hpl
    have hke:=hfin w hP
    clear hacc hfin
    go_wp2_with (go_at_call 138;refine hpl.mono ?_;rintro e W2 ⟨rfl,b2⟩)
    have hb4:=hb3.trans (b2.mono (by omega))
    go_wp2
    go_ret
    rw[hke]
    exact⟨rfl,hb4⟩
   |true=>
    rw[hP,Bool.true_and,List.drop_drop] at hacc
    rw[hP] at hpl
    clear hfin
    obtain⟨kk,hkk⟩:∃kk,kk=keyAll s.size s.data.toList:=⟨_,rfl⟩
    go_wp2_with (go_at_call 138;refine hpl.mono ?_;rintro e W2 ⟨rfl,b2⟩)
    have hb4:=hb3.trans (b2.mono (by omega))
    have hit4:W2.heap[w.heap.size]?=some (.stringIter s (pos+D2)):=(b2.block _ (by omega)).trans hit3
    go_wp2
    go_roundw
    case rel=>exact⟨pos+D2,f,hit4,hb4,hacc,by omega⟩
    case measure=>
     simp only[World.iterPos,hit4,hit]
     omega
  ·have hnx:∀ty,(Instr.next (.pointer (some ⟨w.heap.size,0,none⟩)) true ty).run Tryz.prog wr=_:=fun ty=>Lib.run_next_end_at wr w.heap.size s pos ty hit hp
   have hall:keyAll s.size s.data.toList=true:=by
    rw[←hacc,List.drop_eq_nil_of_le (by rw[size_list];omega)];cases fuel<;>simp[keyAll]
   have hkey:keyR s.data.toList=(decide ((1:Int)≤s.size)&&decide ((s.size:Int)≤16)):=by
    rw[keyR,size_list,hall,Bool.true_and]
    congr 1<;>exact decide_eq_decide.2 (by omega)
   clear hacc hall
   by_cases h1:(1:Int)≤s.size
   ·rw[decide_eq_true h1,Bool.true_and] at hkey
    go_wp2
    go_ret
    exact⟨by first|rfl|(rw[hkey];rfl),hbw⟩
   ·rw[decide_eq_false h1,Bool.false_and] at hkey
    go_wp2
    go_ret
    exact⟨by first|rfl|(rw[hkey];rfl),hbw⟩
end Sg
