/- NodeDirectors, wherever what it reads is of bulk at most 1048576: proved over a checked abstract run of the translated code; no condition but that. A part. -/
import Derived.Test.YtdccphnkmcbjeaaGreatDoorNodeDirectorsA5
set_option linter.unusedSimpArgs false
set_option linter.unusedVariables false
set_option linter.constructorNameAsVariable false
set_option linter.defProp false
set_option maxRecDepth 100000
namespace Sg
open _root_.Go (IntKind BinOp UnOp)
variable {Pg:PgT}
theorem Yfa:Jn (Y2 ndU) 1200 522 [.int .i64 1]=some (.tuple [Yeh,.int .i64 0]):=by kernel_rfl
theorem Yfb:Jn (Y2 ndU) 1200 523 [Yeh,.int .i64 1]=some Yef:=by kernel_rfl
theorem Yfd:Jn (Y2 ndU) 1200 525 [Yeg,.int .i64 0]=some (.tuple [YeO,.int .i64 0]):=by kernel_rfl
def H586 (Pg:PgT):Prop:=Pg 586=some (.code F586)
def H8510 (Pg:PgT):Prop:=∀x∈ndT,Pg x.1=some x.2
def H510 (Pg:PgT):Prop:=Pg 510=some (.code F510)∧H586 Pg∧H8510 Pg
theorem YcS (h1:H586 Pg) (h2:H8510 Pg):Le (Jn (Y2 ndU) 1200) (K' Pg):=by
 have hc:∀f x,Y2 [(586,.code F586)] f=some x→Pg f=some x:=Yak (by intro x hx;rw[List.mem_singleton.1 hx];exact h1);have k1:=Jb8 (Yaa hc 300 _ _ _ (Ydi Yew));have k2:=Jb8 (Yaa hc 300 _ _ _ (Ydi Yex));refine callN_sub (fun f x hx=>?_) 1200;unfold ndU Y2 at hx;cases hb:Nat.beq 586 f with
 |true=>
  have hf:586=f:=Nat.eq_of_beq_eq_true hb;subst hf;rw[hb] at hx;cases hx;refine .inr ⟨none,Yd6,rfl,fun a r hr=>?_⟩;unfold Yd6 at hr;split at hr
  ·split at hr
   ·rename_i e;subst e;rw[←hr];exact k1
   ·split at hr
    ·rename_i e;subst e;rw[←hr];exact k2
    ·cases hr
  ·cases hr
 |false=>
  rw[hb] at hx;exact .inl (Yak h2 _ _ hx)
theorem K510 (h:H510 Pg):K' Pg 510 []=some (.bool true):=by
 obtain⟨h,h1,h2⟩:=h;have k1:=YcS h1 h2 _ _ _ Yfa;have k2:=YcS h1 h2 _ _ _ Yfb;have k3:=YcS h1 h2 _ _ _ Yfc;have k4:=YcS h1 h2 _ _ _ Yfd;unfold Yeh at k1 k2;unfold Yef at k2 k3;unfold Yeg at k3 k4;unfold YeO at k4;unfold YeM at k3;refine Qa h rfl ?_;simp only[F510,c510,go_sem,k1,k2,k3,k4,List.length_cons,List.length_nil]
end Sg
