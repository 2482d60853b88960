/- NodeStores, wherever what it reads is of bulk at most 1048576: proved over a checked abstract run of the translated code; no condition but that. A part. -/
import Derived.Test.YtcdejnpngkeknaaGreatDoorNodeStoresA5
set_option linter.unusedSimpArgs false
set_option linter.unusedVariables false
set_option linter.constructorNameAsVariable false
set_option linter.defProp false
set_option maxRecDepth 100000
namespace Sg
open _root_.Go (IntKind BinOp UnOp)
variable {Pg:PgT}
def PE:Jn (jc pi) 1200 522 [.int .i64 1]=some (.tuple [zK,.int .i64 0]):=by kernel_rfl
def PF:Jn (jc pi) 1200 523 [zK,.int .i64 1]=some zI:=by kernel_rfl
def PH:Jn (jc pi) 1200 525 [zJ,.int .i64 0]=some (.tuple [Dz,.int .i64 0]):=by kernel_rfl
def rD:=HpZ 586 F586
def jQ (Pg:PgT):Prop:=∀x∈P1,Pg x.1=some x.2
def rr:=HpC 510 F510<|HpA rD<|jQ
def vH (h1:rD Pg) (u:jQ Pg):Le (Jn (jc pi) 1200) (K' Pg):=by
 have q:∀f x,jc [(586,.code F586)] f=some x->Pg f=some x:=yG (by intro x o;rw[List.mem_singleton.1 o];exact h1);have y:=oJ (vj q 300 _ _ _ (De OZ));have z:=oJ (vj q 300 _ _ _ (De O0));refine fP (fun f x o=>?_) 1200;unfold pi jc at o;cases p:Nat.beq 586 f with
 |true=>
  have w:586=f:=Nat.eq_of_beq_eq_true p;subst w;rw[p] at o;cases o;refine .inr ⟨none,zH,rfl,fun a r j=>?_⟩;unfold zH at j;split at j
  ·split at j
   ·rename_i e;subst e;rw[<-j];exact y
   ·split at j
    ·rename_i e;subst e;rw[<-j];exact z
    ·cases j
  ·cases j
 |false=>
  rw[p] at o;exact .inl (yG u _ _ o)
def yp (h:rr Pg):K' Pg 510 []=some (.bool true):=by
 obtain⟨h,h1,j⟩:=h;have q:=vH h1 j _ _ _ PE;have o:=vH h1 j _ _ _ PF;have k3:=vH h1 j _ _ _ PG;have p:=vH h1 j _ _ _ PH;unfold zK at q o;unfold zI at o k3;unfold zJ at k3 p;unfold Dz at p;unfold Dy at k3;refine aA h rfl ?_;simp only[F510,c510,go_sem,q,o,k3,p,List.length_cons,List.length_nil]
end Sg
