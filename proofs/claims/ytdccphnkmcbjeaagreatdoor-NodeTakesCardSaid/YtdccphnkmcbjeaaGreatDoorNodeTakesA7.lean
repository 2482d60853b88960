/- NodeTakes, at every input: proved over a checked abstract run of the translated code; no condition. A part. -/
import Derived.Test.YtdccphnkmcbjeaaGreatDoorNodeTakesA6
set_option linter.unusedSimpArgs false
set_option linter.unusedVariables false
set_option linter.constructorNameAsVariable false
set_option linter.defProp false
set_option maxRecDepth 100000
namespace Sg
open _root_.Go (IntKind BinOp UnOp)
variable {Pg:PgT}
theorem YjG:Jn (Yal ndU) 1200 522 [.int .i64 1]=some (.tuple [Yim,.int .i64 0]):=by kernel_rfl
theorem YjH:Jn (Yal ndU) 1200 523 [Yim,.int .i64 1]=some Yik:=by kernel_rfl
theorem YjJ:Jn (Yal ndU) 1200 525 [Yil,.int .i64 0]=some (.tuple [Yi5,.int .i64 0]):=by kernel_rfl
def H586 (Pg:PgT):Prop:=Pg 586=some (.code F586)
def H8510 (Pg:PgT):Prop:=∀x∈ndT,Pg x.1=some x.2
def H510 (Pg:PgT):Prop:=Pg 510=some (.code F510)∧H586 Pg∧H8510 Pg
theorem YeU (h1:H586 Pg) (h2:H8510 Pg):Le (Jn (Yal ndU) 1200) (K' Pg):=by
 have hc:∀f x,Yal [(586,.code F586)] f=some x→Pg f=some x:=YaE (by intro x hx;rw[List.mem_singleton.1 hx];exact h1);have k1:=Jb9 (Yaw hc 300 _ _ _ (Yfn YiL));have k2:=Jb9 (Yaw hc 300 _ _ _ (Yfn YiM));refine callN_sub (fun f x hx=>?_) 1200;unfold ndU Yal at hx;cases hb:Nat.beq 586 f with
 |true=>
  have hf:586=f:=Nat.eq_of_beq_eq_true hb;subst hf;rw[hb] at hx;cases hx;refine .inr ⟨none,YhZ,rfl,fun a r hr=>?_⟩;unfold YhZ at hr;split at hr
  ·split at hr
   ·rename_i e;subst e;rw[←hr];exact k1
   ·split at hr
    ·rename_i e;subst e;rw[←hr];exact k2
    ·cases hr
  ·cases hr
 |false=>
  rw[hb] at hx;exact .inl (YaE h2 _ _ hx)
theorem K510 (h:H510 Pg):K' Pg 510 []=some (.bool true):=by
 obtain⟨h,h1,h2⟩:=h;have k1:=YeU h1 h2 _ _ _ YjG;have k2:=YeU h1 h2 _ _ _ YjH;have k3:=YeU h1 h2 _ _ _ YjI;have k4:=YeU h1 h2 _ _ _ YjJ;unfold Yim at k1 k2;unfold Yik at k2 k3;unfold Yil at k3 k4;unfold Yi5 at k4;unfold Yi4 at k3;refine Qa h rfl ?_;simp only[F510,c510,go_sem,k1,k2,k3,k4,List.length_cons,List.length_nil]
end Sg
