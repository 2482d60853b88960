/- A checked abstract run of translated code is sound: for every program and input that pass its checks. A general part, used by the proofs of this seat. -/
import Derived.DataReads
import Derived.WideShapes
import Derived.ChangeSlices
import Derived.ChangeSame
import Derived.JoinedOf
import Derived.JoinedAt
import Derived.Carry
import Derived.Test.YtefmddahijpliaaGreatDoorG2
set_option linter.unusedSimpArgs false
set_option linter.unusedVariables false
set_option linter.constructorNameAsVariable false
set_option linter.defProp false
namespace Sg
open Go (IntKind BinOp UnOp)
noncomputable section
abbrev FO:Type:=Option V
abbrev bo {α:Type} (c:Bool) (x y:α):α:=@Bool.rec (fun _=>α) y x c
def oc {α:Type} (x:Option α) (f:α→FO):FO:=@Option.rec α (fun _=>FO) none f x
theorem Jg {α:Type} {x:Option α} {f:α→FO} {r:V} (h:oc x f=some r):∃a,x=some a∧f a=some r:=by
 cases x with
 |none=>cases h
 |some a=>exact⟨a,rfl,h⟩
theorem Jc {c:Bool} {x y:FO} {r:V} (h:bo c x y=some r):(c=true∧x=some r)∨(c=false∧y=some r):=by
 cases c<;>first|exact .inl ⟨rfl,h⟩|exact .inr ⟨rfl,h⟩
theorem JD {a b:Nat} (h:Nat.beq a b=true):a=b:=Nat.eq_of_beq_eq_true h
theorem Jb4 {a b:Nat} (h:a≠b):Nat.beq a b=false:=by rw[Bool.eq_false_iff];exact fun q=>h (JD q)
inductive EL (α:Type) where
 |n
 |c (k:Nat) (v:α) (t:EL α)
section
variable {α:Type}
def elG (l:EL α) (k:Nat):Option α:=@EL.rec α (fun _=>Option α) none (fun j v _ ih=>bo (Nat.beq j k) (some v) ih) l
def elR (l:EL V) (k:Nat):V:=@EL.rec V (fun _=>V) .undef (fun j v _ ih=>bo (Nat.beq j k) v ih) l
def elS (k:Nat) (v:α) (l:EL α):EL α:=@EL.rec α (fun _=>EL α) (.c k v .n) (fun j u t ih=>bo (Nat.beq j k) (.c k v t) (.c j u ih)) l
def elF (p:Nat→Bool) (l:EL α):EL α:=@EL.rec α (fun _=>EL α) .n (fun j u t ih=>bo (p j) ih (.c j u ih)) l
def elM (f:α→α) (l:EL α):EL α:=@EL.rec α (fun _=>EL α) .n (fun j u t ih=>.c j (f u) ih) l
def elK (f:Nat→Nat) (l:EL α):EL α:=@EL.rec α (fun _=>EL α) .n (fun j u t ih=>.c (f j) u ih) l
def JaM (kn:FO) (ks:α→FO) (k:Nat) (l:EL α):FO:=@EL.rec α (fun _=>FO) kn (fun j v _ ih=>bo (Nat.beq j k) (ks v) ih) l
def Jd7 (ks:V→FO) (k:Nat) (l:EL V):FO:=@EL.rec V (fun _=>FO) (ks .undef) (fun j v _ ih=>bo (Nat.beq j k) (ks v) ih) l
def JN (k:Nat) (v:α) (l:EL α):(EL α→FO)→FO:=@EL.rec α (fun _=>(EL α→FO)→FO) (fun c=>c (.c k v .n)) (fun j u t ih c=>bo (Nat.beq j k) (c (.c k v t)) (ih fun t'=>c (.c j u t'))) l
theorem JF (kn:FO) (ks:α→FO) (k:Nat):∀l:EL α,JaM kn ks k l=@Option.rec α (fun _=>FO) kn ks (elG l k)
 |.n=>rfl
 |.c j v t=>by
  show bo (Nat.beq j k) (ks v) (JaM kn ks k t)=@Option.rec α (fun _=>FO) kn ks (bo (Nat.beq j k) (some v) (elG t k))
  cases Nat.beq j k<;>first|exact JF kn ks k t|rfl
theorem Jby (ks:V→FO) (k:Nat):∀l:EL V,Jd7 ks k l=ks (elR l k)
 |.n=>rfl
 |.c j v t=>by
  show bo (Nat.beq j k) (ks v) (Jd7 ks k t)=ks (bo (Nat.beq j k) v (elR t k))
  cases Nat.beq j k<;>first|exact Jby ks k t|rfl
theorem Jp (k:Nat) (v:α):∀(l:EL α) (c:EL α→FO),JN k v l c=c (elS k v l)
 |.n,c=>rfl
 |.c j u t,c=>by
  show bo (Nat.beq j k) (c (.c k v t)) (JN k v t fun t'=>c (.c j u t'))=c (bo (Nat.beq j k) (.c k v t) (.c j u (elS k v t)))
  cases Nat.beq j k<;>first|exact Jp k v t _|rfl
theorem Jb9 (k:Nat) (v:α) (l:EL α):elG (.c k v l)=upd (elG l) k (some v):=by
 funext i
 show bo (Nat.beq k i) (some v) (elG l i)=_
 unfold upd;by_cases h:i=k
 ·subst h;rw[GC rfl,Nat.beq_refl]
 ·rw[Jb4 (Ne.symm h),GA h]
theorem Jbp (k:Nat) (v:V) (l:EL V):elR (.c k v l)=upd (elR l) k v:=by
 funext i
 show bo (Nat.beq k i) v (elR l i)=_
 unfold upd;by_cases h:i=k
 ·subst h;rw[GC rfl,Nat.beq_refl]
 ·rw[Jb4 (Ne.symm h),GA h]
theorem JcP (f:Nat→α) (k:Nat) (u v:α):upd (upd f k u) k v=upd f k v:=by
 funext i;unfold upd;split<;>rfl
theorem Jcc (f:Nat→α) {k j:Nat} (u v:α) (h:k≠j):upd (upd f k u) j v=upd (upd f j v) k u:=by
 funext i;unfold upd;split<;>split<;>first|rfl|omega
theorem JR (k:Nat) (v:α):∀l:EL α,elG (elS k v l)=upd (elG l) k (some v)
 |.n=>Jb9 k v .n
 |.c j u t=>by
  show elG (bo (Nat.beq j k) (.c k v t) (.c j u (elS k v t)))=_
  by_cases h:j=k
  ·subst h;rw[Nat.beq_refl]
   show elG (.c j v t)=_
   rw[Jb9,Jb9,JcP]
  ·rw[Jb4 h]
   show elG (.c j u (elS k v t))=_
   rw[Jb9,Jb9,JR k v t,Jcc _ _ _ (Ne.symm h)]
theorem JhY (k:Nat) (v:V):∀l:EL V,elR (elS k v l)=upd (elR l) k v
 |.n=>Jbp k v .n
 |.c j u t=>by
  show elR (bo (Nat.beq j k) (.c k v t) (.c j u (elS k v t)))=_
  by_cases h:j=k
  ·subst h;rw[Nat.beq_refl]
   show elR (.c j v t)=_
   rw[Jbp,Jbp,JcP]
  ·rw[Jb4 h]
   show elR (.c j u (elS k v t))=_
   rw[Jbp,Jbp,JhY k v t,Jcc _ _ _ (Ne.symm h)]
theorem JcK (p:Nat→Bool):∀(l:EL α) (k:Nat),elG (elF p l) k=if p k then none else elG l k
 |.n,k=>by split<;>rfl
 |.c j u t,k=>by
  show elG (bo (p j) (elF p t) (.c j u (elF p t))) k=if p k then none else bo (Nat.beq j k) (some u) (elG t k)
  by_cases h:j=k
  ·subst h;rw[Nat.beq_refl];cases q:p j with
   |true=>show elG (elF p t) j=_;rw[JcK p t j,q];rfl
   |false=>show bo (Nat.beq j j) (some u) _=_;rw[Nat.beq_refl];rfl
  ·rw[Jb4 h];cases q:p j with
   |true=>exact JcK p t k
   |false=>show bo (Nat.beq j k) (some u) (elG (elF p t) k)=_;rw[Jb4 h];exact JcK p t k
theorem JeP (f:α→α):∀(l:EL α) (k:Nat),elG (elM f l) k=(elG l k).map f
 |.n,k=>rfl
 |.c j u t,k=>by
  show bo (Nat.beq j k) (some (f u)) (elG (elM f t) k)=(bo (Nat.beq j k) (some u) (elG t k)).map f
  cases Nat.beq j k<;>first|exact JeP f t k|rfl
theorem JeQ (f:V→V) (h:f .undef=.undef):∀(l:EL V) (k:Nat),elR (elM f l) k=f (elR l k)
 |.n,k=>h.symm
 |.c j u t,k=>by
  show bo (Nat.beq j k) (f u) (elR (elM f t) k)=f (bo (Nat.beq j k) u (elR t k))
  cases Nat.beq j k<;>first|exact JeQ f h t k|rfl
theorem JhX (f:Nat→Nat) (hf:∀x,f (f x)=x):∀(l:EL α) (k:Nat),elG (elK f l) k=elG l (f k)
 |.n,k=>rfl
 |.c j u t,k=>by
  show bo (Nat.beq (f j) k) (some u) (elG (elK f t) k)=bo (Nat.beq j (f k)) (some u) (elG t (f k))
  rw[JhX f hf t k];have:Nat.beq (f j) k=Nat.beq j (f k):=by
   rw[Bool.eq_iff_iff];constructor
   ·intro q;rw[←JD q,hf];exact Nat.beq_refl _
   ·intro q;rw[JD q,hf];exact Nat.beq_refl _
  rw[this]
end
abbrev ML:Type:=EL (List V×Bool)
abbrev AL:Type:=EL (Nat×List (List V)×Fz)
def den (ρ:EL V) (μ:ML) (A:AL):St:=⟨elR ρ,elG μ,elG A⟩
section
variable {α β:Type}
def lnF (l:List α):Nat→Nat:=@List.rec α (fun _=>Nat→Nat) (fun n=>n) (fun _ _ ih n=>ih (Nat.succ n)) l
theorem Jfc:∀(l:List α) (n:Nat),lnF l n=n+l.length
 |[],n=>rfl
 |a::l,n=>by
  show lnF l (n+1)=_
  rw[Jfc l (n+1),List.length_cons];omega
def Jt (l:List α):Nat:=lnF l 0
theorem Jm (l:List α):Jt l=l.length:=by unfold Jt;rw[Jfc];omega
def Jak (l:List α):Nat→Option α:=@List.rec α (fun _=>Nat→Option α) (fun _=>none) (fun a _ ih n=>@Nat.rec (fun _=>Option α) (some a) (fun m _=>ih m) n) l
theorem JX:∀(l:List α) (n:Nat),Jak l n=l[n]?
 |[],n=>by simp[Jak]
 |a::l,0=>rfl
 |a::l,n+1=>by show Jak l n=_;rw[JX l n];simp
def JcG (l:List α):Nat→List α:=@List.rec α (fun _=>Nat→List α) (fun _=>[]) (fun a _ ih n=>@Nat.rec (fun _=>List α) [] (fun m _=>a::ih m) n) l
theorem Jbg:∀(l:List α) (n:Nat),JcG l n=l.take n
 |[],n=>by simp[JcG]
 |a::l,0=>rfl
 |a::l,n+1=>by show a::JcG l n=_;rw[Jbg l n];rfl
def Jcr (l:List α):Nat→List α:=@List.rec α (fun _=>Nat→List α) (fun _=>[]) (fun a t ih n=>@Nat.rec (fun _=>List α) (a::t) (fun m _=>ih m) n) l
theorem Ja5:∀(l:List α) (n:Nat),Jcr l n=l.drop n
 |[],n=>by simp[Jcr]
 |a::l,0=>rfl
 |a::l,n+1=>by show Jcr l n=_;rw[Ja5 l n];rfl
def JbF (l m:List α):List α:=@List.rec α (fun _=>List α) m (fun a _ ih=>a::ih) l
theorem JaF:∀l m:List α,JbF l m=l++m
 |[],m=>rfl
 |a::l,m=>by show a::JbF l m=_;rw[JaF l m];rfl
def Jc3 (l:List α) (v:α):Nat→List α:=@List.rec α (fun _=>Nat→List α) (fun _=>[]) (fun a t ih n=>@Nat.rec (fun _=>List α) (v::t) (fun m _=>a::ih m) n) l
theorem Jbe (v:α):∀(l:List α) (n:Nat),Jc3 l v n=l.set n v
 |[],n=>rfl
 |a::l,0=>rfl
 |a::l,n+1=>by show a::Jc3 l v n=_;rw[Jbe v l n];rfl
def alF (p:α→Bool) (l:List α):Bool:=@List.rec α (fun _=>Bool) true (fun a _ ih=>bo (p a) ih false) l
theorem Jbj (p:α→Bool):∀l:List α,alF p l=l.all p
 |[]=>rfl
 |a::l=>by
  show bo (p a) (alF p l) false=_
  rw[Jbj p l,List.all_cons];cases p a<;>rfl
def mpF (f:α→β) (l:List α):List β:=@List.rec α (fun _=>List β) [] (fun a _ ih=>f a::ih) l
theorem Jfe (f:α→β):∀l:List α,mpF f l=l.map f
 |[]=>rfl
 |a::l=>by show f a::mpF f l=_;rw[Jfe f l];rfl
def inL (l:List Nat) (k:Nat):Bool:=@List.rec Nat (fun _=>Bool) false (fun a _ ih=>bo (Nat.beq a k) true ih) l
theorem Jdl (k:Nat):∀l:List Nat,inL l k=l.contains k
 |[]=>rfl
 |a::l=>by
  show bo (Nat.beq a k) true (inL l k)=_
  rw[List.contains_cons,Jdl k l];by_cases h:a=k
  ·subst h;simp[Nat.beq_refl]
  ·rw[Jb4 h];have h2:(k == a)=false:=by simp;omega
   rw[h2];rfl
end
def Jax (k:IntKind):Nat:=@IntKind.rec (fun _=>Nat) 128 32768 2147483648 9223372036854775808 256 65536 4294967296 18446744073709551616 k
def JhB (k:IntKind):Nat:=@IntKind.rec (fun _=>Nat) 0 1 2 3 4 5 6 7 k
theorem JhC {k k':IntKind} (h:Nat.beq (JhB k) (JhB k')=true):k=k':=by
 cases k<;>cases k'<;>first|rfl|cases h
theorem Jbv {k:IntKind} {n:Nat} (h:n<Jax k):k.wrap (n:Int)=(n:Int):=by
 cases k<;>simp only[Jax] at h<;>simp[IntKind.wrap,IntKind.bits,IntKind.signed]<;>omega
theorem JgP (k:IntKind):Jax k≤2 ^ k.bits:=by cases k<;>decide
theorem JbQ (k:IntKind):∃b,Jax k=2 ^ b:=by
 cases k
 ·exact⟨7,rfl⟩
 ·exact⟨15,rfl⟩
 ·exact⟨31,rfl⟩
 ·exact⟨63,rfl⟩
 ·exact⟨8,rfl⟩
 ·exact⟨16,rfl⟩
 ·exact⟨32,rfl⟩
 ·exact⟨64,rfl⟩
def JcQ (f:Nat→Nat→FO) (slow:FO) (a b:Int):FO:=@Int.rec (fun _=>FO) (fun n=>@Int.rec (fun _=>FO) (fun m=>f n m) (fun _=>slow) b) (fun _=>slow) a
theorem JbP {f:Nat→Nat→FO} {slow:FO} {a b:Int} (h:∀n m:Nat,a=n→b=m→f n m=slow):JcQ f slow a b=slow:=by
 cases a with
 |negSucc _=>rfl
 |ofNat n=>
  cases b with
  |negSucc _=>rfl
  |ofNat m=>exact h n m rfl rfl
def Jdi (k:IntKind) (n:Nat) (slow:FO):FO:=bo (Nat.blt n (Jax k)) (some (.int k (Int.ofNat n))) slow
theorem Ja6 {k:IntKind} {n:Nat} {slow:FO} (h:n<Jax k→some (V.int k (n:Int))=slow):Jdi k n slow=slow:=by
 unfold Jdi;cases q:Nat.blt n (Jax k) with
 |false=>rfl
 |true=>exact h (Nat.le_of_ble_eq_true q)
def Jkr (k:IntKind) (a b:Int):FO:=JcQ (fun n m=>Jdi k (Nat.add n m) (Ji .add k a b)) (Ji .add k a b) a b
def JlN (k:IntKind) (a b:Int):FO:=JcQ (fun n m=>bo (Nat.ble m n) (Jdi k (Nat.sub n m) (Ji .sub k a b)) (Ji .sub k a b)) (Ji .sub k a b) a b
def Jls (k:IntKind) (a b:Int):FO:=JcQ (fun n m=>Jdi k (Nat.mul n m) (Ji .mul k a b)) (Ji .mul k a b) a b
def JaT (o:BinOp) (g:Nat→Nat→Nat) (k:IntKind) (a b:Int):FO:=JcQ (fun n m=>bo (Nat.blt n (Jax k)) (bo (Nat.blt m (Jax k)) (some (.int k (Int.ofNat (g n m)))) (Ji o k a b)) (Ji o k a b)) (Ji o k a b) a b
def Jdd (o:BinOp) (g:Nat→Nat→Bool) (k:IntKind) (a b:Int):FO:=JcQ (fun n m=>some (.bool (g n m))) (Ji o k a b) a b
theorem JfV (k:IntKind) (a b:Int):Jkr k a b=Ji .add k a b:=JbP fun n m ha hb=>Ja6 fun h=>by
 subst ha;subst hb
 show some (V.int k ((n+m:Nat):Int))=some (V.int k (k.wrap ((n:Int)+m)))
 rw[show ((n:Int)+m)=((n+m:Nat):Int) by omega,Jbv (show n+m<Jax k from h)]
theorem Jhw (k:IntKind) (a b:Int):JlN k a b=Ji .sub k a b:=JbP fun n m ha hb=>by
 subst ha;subst hb;cases q:Nat.ble m n with
 |false=>rfl
 |true=>
  have hle:=Nat.le_of_ble_eq_true q;refine Ja6 fun h=>?_
  show some (V.int k ((n-m:Nat):Int))=some (V.int k (k.wrap ((n:Int)-m)))
  rw[show ((n:Int)-m)=((n-m:Nat):Int) by omega,Jbv (show n-m<Jax k from h)]
theorem JgU (k:IntKind) (a b:Int):Jls k a b=Ji .mul k a b:=JbP fun n m ha hb=>Ja6 fun h=>by
 subst ha;subst hb
 show some (V.int k ((n*m:Nat):Int))=some (V.int k (k.wrap ((n:Int)*m)))
 rw[←Int.natCast_mul,Jbv (show n*m<Jax k from h)]
theorem Jcn (o:BinOp) (g:Nat→Nat→Nat) (k:IntKind) (a b:Int) (h:∀n m:Nat,n<Jax k→m<Jax k→some (V.int k ((g n m:Nat):Int))=Ji o k n m):JaT o g k a b=Ji o k a b:=JbP fun n m ha hb=>by
 subst ha;subst hb;cases q:Nat.blt n (Jax k) with
 |false=>rfl
 |true=>
  cases q2:Nat.blt m (Jax k) with
  |false=>rfl
  |true=>exact h n m (Nat.le_of_ble_eq_true q) (Nat.le_of_ble_eq_true q2)
theorem Jcd {k:IntKind} {n:Nat} (h:n<Jax k):(BitVec.ofInt k.bits (n:Int)).toNat=n:=by
 rw[BitVec.ofInt_natCast,BitVec.toNat_ofNat,Nat.mod_eq_of_lt (GO h (JgP k))]
theorem JfY (k:IntKind) (a b:Int):JaT .and Nat.land k a b=Ji .and k a b:=Jcn _ _ _ _ _ fun n m hn hm=>by
 show _=some (V.int k (k.wrap ((BitVec.ofInt k.bits (n:Int) &&& BitVec.ofInt k.bits (m:Int)).toNat:Int)))
 rw[BitVec.toNat_and,Jcd hn,Jcd hm];obtain⟨b,hb⟩:=JbQ k;rw[Jbv (by rw[hb] at hn hm ⊢;exact Nat.and_lt_two_pow _ hm)];rfl
theorem Jjo (k:IntKind) (a b:Int):JaT .or Nat.lor k a b=Ji .or k a b:=Jcn _ _ _ _ _ fun n m hn hm=>by
 show _=some (V.int k (k.wrap ((BitVec.ofInt k.bits (n:Int) ||| BitVec.ofInt k.bits (m:Int)).toNat:Int)))
 rw[BitVec.toNat_or,Jcd hn,Jcd hm];obtain⟨b,hb⟩:=JbQ k;rw[Jbv (by rw[hb] at hn hm ⊢;exact Nat.or_lt_two_pow hn hm)];rfl
theorem JhT (k:IntKind) (a b:Int):JaT .xor Nat.xor k a b=Ji .xor k a b:=Jcn _ _ _ _ _ fun n m hn hm=>by
 show _=some (V.int k (k.wrap ((BitVec.ofInt k.bits (n:Int) ^^^ BitVec.ofInt k.bits (m:Int)).toNat:Int)))
 rw[BitVec.toNat_xor,Jcd hn,Jcd hm];obtain⟨b,hb⟩:=JbQ k;rw[Jbv (by rw[hb] at hn hm ⊢;exact Nat.xor_lt_two_pow hn hm)];rfl
theorem JaI (o:BinOp) (g:Nat→Nat→Bool) (k:IntKind) (a b:Int) (h:∀n m:Nat,some (V.bool (g n m))=Ji o k n m):Jdd o g k a b=Ji o k a b:=JbP fun n m ha hb=>by
 subst ha;subst hb;exact h n m
def neF (n m:Nat):Bool:=bo (Nat.beq n m) false true
def gtF (n m:Nat):Bool:=Nat.blt m n
def geF (n m:Nat):Bool:=Nat.ble m n
theorem JdE (n m:Nat):Nat.beq n m=decide ((n:Int)=m):=by
 rw[Bool.eq_iff_iff,decide_eq_true_iff];constructor
 ·intro h;rw[JD h]
 ·intro h;rw[show n=m by omega];exact Nat.beq_refl m
theorem JdF (n m:Nat):Nat.ble n m=decide ((n:Int)≤m):=by
 rw[Bool.eq_iff_iff,decide_eq_true_iff,Nat.ble_eq];omega
theorem JdG (n m:Nat):Nat.blt n m=decide ((n:Int)<m):=by
 show Nat.ble (n+1) m=_
 rw[Bool.eq_iff_iff,decide_eq_true_iff,Nat.ble_eq];omega
def ibF (o:BinOp) (k:IntKind) (a b:Int):FO:=(@BinOp.rec (fun _=>IntKind→Int→Int→FO) Jkr JlN Jls (Ji .quo) (Ji .rem) (JaT .and Nat.land) (JaT .or Nat.lor) (JaT .xor Nat.xor) (Ji .shl) (Ji .shr) (Ji .andNot)
 (Jdd .eql Nat.beq) (Jdd .neq neF) (Jdd .lss Nat.blt) (Jdd .leq Nat.ble) (Jdd .gtr gtF) (Jdd .geq geF) o) k a b
theorem Ji1 (o:BinOp) (k:IntKind) (a b:Int):ibF o k a b=Ji o k a b:=by
 cases o
 ·exact JfV k a b
 ·exact Jhw k a b
 ·exact JgU k a b
 ·rfl
 ·rfl
 ·exact JfY k a b
 ·exact Jjo k a b
 ·exact JhT k a b
 ·rfl
 ·rfl
 ·rfl
 ·exact JaI _ _ _ _ _ fun n m=>by show some (V.bool (Nat.beq n m))=some (V.bool _);rw[JdE]
 ·exact JaI _ _ _ _ _ fun n m=>by
   show some (V.bool (neF n m))=some (V.bool _)
   unfold neF;rw[JdE];cases decide ((n:Int)=m)<;>rfl
 ·exact JaI _ _ _ _ _ fun n m=>by show some (V.bool (Nat.blt n m))=some (V.bool _);rw[JdG]
 ·exact JaI _ _ _ _ _ fun n m=>by show some (V.bool (Nat.ble n m))=some (V.bool _);rw[JdF]
 ·exact JaI _ _ _ _ _ fun n m=>by show some (V.bool (Nat.blt m n))=some (V.bool _);rw[JdG]
 ·exact JaI _ _ _ _ _ fun n m=>by show some (V.bool (Nat.ble m n))=some (V.bool _);rw[JdF]
def JcC (a:List UInt8):List UInt8→Bool:=@List.rec UInt8 (fun _=>List UInt8→Bool) (fun b=>@List.rec UInt8 (fun _=>Bool) true (fun _ _ _=>false) b)
 (fun x _ ih b=>@List.rec UInt8 (fun _=>Bool) false (fun y t _=>bo (Nat.beq x.toNat y.toNat) (ih t) false) b) a
theorem JcD:∀a b:List UInt8,JcC a b=decide (a=b)
 |[],[]=>by simp[JcC]
 |[],y::b=>by simp[JcC]
 |x::a,[]=>by simp[JcC]
 |x::a,y::b=>by
  show bo (Nat.beq x.toNat y.toNat) (JcC a b) false=_
  rw[JcD a b];by_cases h:x=y
  ·subst h;rw[Nat.beq_refl];simp
  ·have:x.toNat≠y.toNat:=fun q=>h (UInt8.toNat_inj.1 q);rw[Jb4 this];simp[h]
def sbF (o:BinOp) (a b:List UInt8):FO:=@BinOp.rec (fun _=>FO) (bo (Nat.ble (Nat.add (Jt a) (Jt b)) 4611686018427387904) (some (.str (JbF a b))) none) none none none none none none none none none none
 (some (.bool (JcC a b))) (some (.bool (bo (JcC a b) false true))) none none none none o
theorem JjV (o:BinOp) (a b:List UInt8):sbF o a b=JaY o a b:=by
 cases o<;>try rfl
 ·show bo (Nat.ble (Nat.add (Jt a) (Jt b)) 4611686018427387904) (some (V.str (JbF a b))) none=_
  rw[Jm,Jm,JaF];unfold JaY;by_cases h:a.length+b.length≤4611686018427387904
  ·simp only[GC h];rw[show Nat.ble (Nat.add a.length b.length) 4611686018427387904=true from by rw[Nat.ble_eq];exact h]
  ·simp only[GA h];rw[show Nat.ble (Nat.add a.length b.length) 4611686018427387904=false from by rw[Bool.eq_false_iff];exact fun q=>h (Nat.le_of_ble_eq_true q)]
 ·show some (V.bool (JcC a b))=some (V.bool _)
  rw[JcD]
 ·show some (V.bool (bo (JcC a b) false true))=some (V.bool _)
  rw[JcD];cases decide (a=b)<;>rfl
def Jie (o:BinOp) (x y:V):FO:=match x,y with
 |.int k a,.int k' b=>bo (Nat.beq (JhB k) (JhB k')) (ibF o k a b) none
 |.str a,.str b=>sbF o a b
 |_,_=>none
theorem Jf2 {o:BinOp} {x y v:V} (h:Jie o x y=some v):Jdc o x y=some v:=by
 unfold Jie at h;split at h
 ·rename_i k a k' b;rcases Jc h with ⟨h1,h2⟩|⟨_,h2⟩
  ·rw[Ji1] at h2
   show (if k=k' then Ji o k a b else none)=some v
   rw[GC (JhC h1)];exact h2
  ·cases h2
 ·rw[JjV] at h;exact h
 ·cases h
def JlB (k:IntKind) (a b:Int) (slow:FO):FO:=JcQ (fun n m=>bo (Nat.ble m k.bits) (Jdi k (Nat.mul n (Nat.pow 2 m)) slow) slow) slow a b
def JlC (k:IntKind) (a b:Int) (slow:FO):FO:=JcQ (fun n m=>bo (Nat.ble m k.bits) (some (.int k (Int.ofNat (Nat.div n (Nat.pow 2 m))))) slow) slow a b
def shF (o:BinOp) (x y:V):FO:=match x,y with
 |.int k a,.int k' b=>@BinOp.rec (fun _=>FO) none none none none none none none none (JlB k a b (shV .shl x y)) (JlC k a b (shV .shr x y)) none none none none none none none o
 |_,_=>none
theorem Jj0 {o:BinOp} {x y v:V} (h:shF o x y=some v):shV o x y=some v:=by
 unfold shF at h;split at h
 ·rename_i k a k' b;have e1:JlB k a b (shV .shl (.int k a) (.int k' b))=shV .shl (.int k a) (.int k' b):=JbP fun n m ha hb=>by
   subst ha;subst hb;cases q:Nat.ble m k.bits with
   |false=>rfl
   |true=>
    refine Ja6 fun hf=>?_
    show some (V.int k ((n*2 ^ m:Nat):Int))=if (m:Int)<0 then none else some (V.int k (k.wrap ((n:Int)*2 ^ (min (Int.toNat (m:Int)) k.bits))))
    rw[GA (by omega),Int.toNat_natCast,Nat.min_eq_left (Nat.le_of_ble_eq_true q)];rw[show ((n:Int)*2 ^ m)=((n*2 ^ m:Nat):Int) by rw[Int.natCast_mul,Int.natCast_pow];rfl,Jbv (show n*2 ^ m<Jax k from hf)]
  have e2:JlC k a b (shV .shr (.int k a) (.int k' b))=shV .shr (.int k a) (.int k' b):=JbP fun n m ha hb=>by
   subst ha;subst hb;cases q:Nat.ble m k.bits with
   |false=>rfl
   |true=>
    show some (V.int k ((n / 2 ^ m:Nat):Int))=if (m:Int)<0 then none else some (V.int k ((n:Int).fdiv (2 ^ (min (Int.toNat (m:Int)) k.bits))))
    rw[GA (by omega),Int.toNat_natCast,Nat.min_eq_left (Nat.le_of_ble_eq_true q)];rw[show ((2:Int) ^ m)=((2 ^ m:Nat):Int) by rw[Int.natCast_pow];rfl,Int.fdiv_eq_ediv_of_nonneg _ (Int.natCast_nonneg _)]
    rfl
  cases o<;>try (cases h;done)
  ·rw[←e1];exact h
  ·rw[←e2];exact h
 ·cases h
def JeH (c:Cv) (x:V):FO:=match c,x with
 |.int k,.int k' n=>@Int.rec (fun _=>FO) (fun m=>Jdi k m (Ja2 c x)) (fun _=>Ja2 c x) n
 |_,_=>Ja2 c x
theorem JeI {c:Cv} {x v:V} (h:JeH c x=some v):Ja2 c x=some v:=by
 unfold JeH at h;split at h
 ·rename_i k k' n;cases n with
  |negSucc _=>exact h
  |ofNat m=>
   rw[←h];symm;refine Ja6 fun hf=>?_
   show _=some (V.int k (k.wrap ((m:Nat):Int)))
   rw[Jbv hf]
 ·exact h
abbrev KC:Type:=V→ML→AL→FO
abbrev FE:Type:=(Nat→List V→FO)→Nat→EL V→EL V→ML→AL→KC→FO
def axc (e ρ:EL V) (a:Arg) (c:V→FO):FO:=@Arg.rec (fun _=>FO) (fun t=>Jd7 c t ρ) (fun i=>Jd7 c i e) (fun v=>c v) (fun k=>c (.func k [])) a
theorem Jk (e ρ:EL V) (a:Arg) (c:V→FO):axc e ρ a c=c (argv (elR e) (elR ρ) a):=by
 cases a
 ·exact Jby c _ ρ
 ·exact Jby c _ e
 ·rfl
 ·rfl
def Jdb (e ρ:EL V) (xs:List Arg):(List V→FO)→FO:=@List.rec Arg (fun _=>(List V→FO)→FO) (fun c=>c []) (fun a _ ih c=>axc e ρ a fun v=>ih fun vs=>c (v::vs)) xs
theorem Ja0 (e ρ:EL V):∀(xs:List Arg) (c:List V→FO),Jdb e ρ xs c=c (xs.map (argv (elR e) (elR ρ)))
 |[],c=>rfl
 |a::l,c=>by
  show axc e ρ a (fun v=>Jdb e ρ l fun vs=>c (v::vs))=_
  rw[Jk,Ja0 e ρ l,Gq]
def Jc9 (e ρ:EL V) (x:Option Arg) (c:Option V→FO):FO:=@Option.rec Arg (fun _=>FO) (c none) (fun a=>axc e ρ a fun v=>c (some v)) x
theorem JaH (e ρ:EL V) (x:Option Arg) (c:Option V→FO):Jc9 e ρ x c=c (x.map (argv (elR e) (elR ρ))):=by
 cases x
 ·rfl
 ·exact Jk _ _ _ _
def p1 (g:V→FO) (x:Arg):FE:=fun κ d e ρ μ A k=>axc e ρ x fun v=>oc (g v) fun w=>k w μ A
def p2 (g:V→V→FO) (x y:Arg):FE:=fun κ d e ρ μ A k=>axc e ρ x fun v=>axc e ρ y fun u=>oc (g v u) fun w=>k w μ A
theorem Jbc {g:V→FO} {x:Arg} {κ d e ρ μ A k r} (h:p1 g x κ d e ρ μ A k=some r):∃w,g (argv (elR e) (elR ρ) x)=some w∧k w μ A=some r:=by
 unfold p1 at h;rw[Jk] at h;exact Jg h
theorem Jbs {g:V→V→FO} {x y:Arg} {κ d e ρ μ A k r} (h:p2 g x y κ d e ρ μ A k=some r):∃w,g (argv (elR e) (elR ρ) x) (argv (elR e) (elR ρ) y)=some w∧k w μ A=some r:=by
 unfold p2 at h;rw[Jk,Jk] at h;exact Jg h
def Jk6 (x:Arg):FE:=fun κ d e ρ μ A k=>axc e ρ x fun v=>k v μ A
def Jh2 (a b:V) (c:V):FO:=match c with
 |.bool t=>some (bo t a b)
 |_=>none
def JiI (c a b:Arg):FE:=fun κ d e ρ μ A k=>axc e ρ c fun c=>axc e ρ a fun a=>axc e ρ b fun b=>oc (Jh2 a b c) fun w=>k w μ A
def fresh {α:Type} (l:EL α) (d:Nat) (k:FO):FO:=JaM k (fun _=>none) d l
theorem JV {α:Type} {l:EL α} {d:Nat} {k:FO} {r:V} (h:fresh l d k=some r):elG l d=none∧k=some r:=by
 unfold fresh at h;rw[JF] at h;cases q:elG l d with
 |none=>rw[q] at h;exact⟨rfl,h⟩
 |some _=>rw[q] at h;cases h
def JkW (x:Arg):FE:=fun κ d e ρ μ A k=>fresh μ d (axc e ρ x fun v=>oc v.cells fun cs=>JN d (cs,false) μ fun μ'=>k (.lref d 0) μ' A)
def Jgv (z:List V):FE:=fun κ d e ρ μ A k=>fresh μ d (JN d (z,false) μ fun μ'=>k (.lref d 0) μ' A)
def axp (e ρ:EL V) (ps:List (Nat×Nat×Arg)):(List (Nat×Nat×V)→FO)→FO:=@List.rec _ (fun _=>(List (Nat×Nat×V)→FO)→FO) (fun c=>c []) (fun a _ ih c=>axc e ρ a.2.2 fun v=>ih fun l=>c ((a.1,a.2.1,v)::l)) ps
theorem JeC (e ρ:EL V):∀(ps:List (Nat×Nat×Arg)) (c),axp e ρ ps c=c (ps.map fun p=>(p.1,p.2.1,argv (elR e) (elR ρ) p.2.2))
 |[],c=>rfl
 |a::l,c=>by
  show axc e ρ a.2.2 (fun v=>axp e ρ l fun l'=>c ((a.1,a.2.1,v)::l'))=_
  rw[Jk,JeC e ρ l,Gq]
def axq (e ρ:EL V) (ps:List (Nat×Arg)):(List (Nat×V)→FO)→FO:=@List.rec _ (fun _=>(List (Nat×V)→FO)→FO) (fun c=>c []) (fun a _ ih c=>axc e ρ a.2 fun v=>ih fun l=>c ((a.1,v)::l)) ps
theorem Jda (e ρ:EL V):∀(ps:List (Nat×Arg)) (c),axq e ρ ps c=c (ps.map fun p=>(p.1,argv (elR e) (elR ρ) p.2))
 |[],c=>rfl
 |a::l,c=>by
  show axc e ρ a.2 (fun v=>axq e ρ l fun l'=>c ((a.1,v)::l'))=_
  rw[Jk,Jda e ρ l,Gq]
def ovF (xs:List V):List V→Option (List V):=@List.rec V (fun _=>List V→Option (List V)) (fun cs=>some cs) (fun x _ ih cs=>@List.rec V (fun _=>Option (List V)) none (fun _ t _=>@Option.rec _ (fun _=>Option (List V)) none (fun l=>some (x::l)) (ih t)) cs) xs
def saF (xs:List V) (cs:List V):Nat→Option (List V):=@List.rec V (fun _=>Nat→Option (List V)) (fun n=>@Nat.rec (fun _=>Option (List V)) (ovF xs []) (fun _ _=>none) n)
 (fun c t ih n=>@Nat.rec (fun _=>Option (List V)) (ovF xs (c::t)) (fun m _=>@Option.rec _ (fun _=>Option (List V)) none (fun l=>some (c::l)) (ih m)) n) cs
theorem Jdo:∀{xs cs l:List V},ovF xs cs=some l→JH cs 0 xs=some l
 |[],cs,l,h=>by
  change some cs=some l at h;simp only[Ga] at h;simp[JH,h]
 |x::xs,[],l,h=>by cases h
 |x::xs,c::cs,l,h=>by
  change @Option.rec _ (fun _=>Option (List V)) none (fun l=>some (x::l)) (ovF xs cs)=some l at h;cases q:ovF xs cs with
  |none=>rw[q] at h;cases h
  |some l'=>
   rw[q] at h;have:=Jdo q;unfold JH at this ⊢;split at this<;>simp only[Ga,reduceCtorEq] at this;rename_i hl;rw[GC (by simp at hl ⊢;exact hl)];change some (x::l')=some l at h;rw[←h,←this];simp
theorem JcB {xs:List V}:∀{cs l:List V} {n:Nat},saF xs cs n=some l→JH cs n xs=some l
 |[],l,0,h=>Jdo h
 |[],l,n+1,h=>by cases h
 |c::cs,l,0,h=>Jdo h
 |c::cs,l,n+1,h=>by
  change @Option.rec _ (fun _=>Option (List V)) none (fun l=>some (c::l)) (saF xs cs n)=some l at h;cases q:saF xs cs n with
  |none=>rw[q] at h;cases h
  |some l'=>
   rw[q] at h;have:=JcB q;unfold JH at this ⊢;split at this<;>simp only[Ga,reduceCtorEq] at this;rename_i hl;rw[GC (by simp only[List.length_cons];omega)];change some (c::l')=some l at h;rw[←h,←this,show n+1+xs.length=(n+xs.length)+1 by omega];simp
def Jgr (xs:List V) (n:Nat) (k:FO):FO:=bo (Nat.beq (Jt xs) n) k none
theorem JdJ {xs:List V} {n:Nat} {k:FO} {r:V} (h:Jgr xs n k=some r):xs.length=n∧k=some r:=by
 rcases Jc h with ⟨h1,h2⟩|⟨_,h2⟩
 ·rw[Jm] at h1;exact⟨JD h1,h2⟩
 ·cases h2
def fiF (ps:List (Nat×Nat×V)):List V→(List V→FO)→FO:=@List.rec _ (fun _=>List V→(List V→FO)→FO) (fun cs c=>c cs)
 (fun p _ ih cs c=>oc p.2.2.cells fun xs=>Jgr xs p.2.1 (oc (saF xs cs p.1) fun cs'=>ih cs' c)) ps
theorem JeU:∀{ps:List (Nat×Nat×V)} {cs:List V} {c:List V→FO} {r:V},fiF ps cs c=some r→∃l,Jae cs ps=some l∧c l=some r
 |[],cs,c,r,h=>⟨cs,rfl,h⟩
 |(off,n,v)::ps,cs,c,r,h=>by
  change oc v.cells (fun xs=>Jgr xs n (oc (saF xs cs off) fun cs'=>fiF ps cs' c))=some r at h;obtain⟨xs,h1,h2⟩:=Jg h;obtain⟨h3,h4⟩:=JdJ h2;obtain⟨cs',h5,h6⟩:=Jg h4;obtain⟨l,h7,h8⟩:=JeU h6;refine⟨l,?_,h8⟩;unfold Jae;rw[h1,Option.bind_some,GC h3,JcB h5,Option.bind_some,h7]
def Jgw (z:List V) (ps:List (Nat×Nat×Arg)):FE:=fun κ d e ρ μ A k=>axp e ρ ps fun ps=>fiF ps z fun cs=>k (.agg cs) μ A
def Jk5 (z n:Nat) (zero:List V) (ps:List (Nat×Arg)):FE:=fun κ d e ρ μ A k=>axq e ρ ps fun ps=>oc (Jr z (List.replicate n zero) ps) fun rows=>k (.slice z rows) μ A
def Jk4 (z:Nat):FE:=fun κ d e ρ μ A k=>fresh A d (JN d (z,[],.live) A fun A'=>k (.own d z 0) μ A')
def JbE (d:Nat) (own:Option Nat) (r:V) (μ:ML) (A:AL) (k:KC):FO:=match own with
 |none=>k r μ A
 |some j=>fresh A d (match r with
   |.slice z rows=>JN d (z,rows,.live) A fun A'=>k (.own d z (Jt rows)) μ A'
   |.tuple vs=>match Jak vs j with
    |some (.slice z rows)=>JN d (z,rows,.live) A fun A'=>k (.tuple (Jc3 vs (.own d z (Jt rows)) j)) μ A'
    |_=>none
   |_=>none)
theorem Jbi {d:Nat} {own:Option Nat} {x:V} {ρ:EL V} {μ:ML} {A:AL} {k:KC} {r:V} (h:JbE d own x μ A k=some r):∃v A',adopt d (den ρ μ A) own x=some (v,den ρ μ A')∧k v μ A'=some r:=by
 unfold JbE at h;cases own with
 |none=>exact⟨x,A,rfl,h⟩
 |some j=>
  obtain⟨h1,h2⟩:=JV h;have hd:(den ρ μ A).A d=none:=h1;split at h2
  ·rename_i z rows;rw[Jp] at h2;refine⟨_,_,?_,h2⟩;simp only[adopt,den,h1,JR,Jm]
  ·rename_i vs;split at h2<;>try (cases h2;done)
   rename_i z rows q;rw[Jp] at h2;rw[JX] at q;refine⟨_,_,?_,h2⟩;simp only[adopt,den,h1,q,JR,Jm,Jbe]
  ·cases h2
def Jk3 (z n:Nat) (zero:List V) (ps:List (Nat×Arg)):FE:=fun κ d e ρ μ A k=>axq e ρ ps fun ps=>oc (Jr z (List.replicate n zero) ps) fun rows=>JbE d (some 0) (.slice z rows) μ A k
def Jh1:V→FO
 |.nslice _=>some (.bool true)
 |.xslice _ _=>some (.bool false)
 |_=>none
def JcN (A:AL) (s:Nat) (c:AL→FO):FO:=JaM (c A) (fun x=>@Prod.rec _ _ (fun _=>FO) (fun z y=>@Prod.rec _ _ (fun _=>FO) (fun rows f=>JN s (z,rows,@Fz.rec (fun _=>Fz) .frz .frz .dead f) A c) y) x) s A
def JeY (l:List Nat):AL→(AL→FO)→FO:=@List.rec Nat (fun _=>AL→(AL→FO)→FO) (fun A c=>c A) (fun s _ ih A c=>JcN A s fun A'=>ih A' c) l
theorem Ja7 {A:AL} {s:Nat} {c:AL→FO} {r:V} (h:JcN A s c=some r):∃A',elG A'=Ju (elG A) [s]∧c A'=some r:=by
 unfold JcN at h;rw[JF] at h;cases q:elG A s with
 |none=>
  rw[q] at h;refine⟨A,?_,h⟩
  show elG A=upd (elG A) s _
  rw[q];funext i;unfold upd;split
  ·rename_i e;rw[e,q];rfl
  ·rfl
 |some x=>
  obtain⟨z,rows,f⟩:=x;rw[q] at h;change JN s (z,rows,@Fz.rec (fun _=>Fz) .frz .frz .dead f) A c=some r at h;rw[Jp] at h;refine⟨_,?_,h⟩;rw[JR]
  show _=upd (elG A) s _
  rw[q];cases f<;>rfl
theorem Jbz:∀{l:List Nat} {A:AL} {c:AL→FO} {r:V},JeY l A c=some r→∃A',elG A'=Ju (elG A) l∧c A'=some r
 |[],A,c,r,h=>⟨A,rfl,h⟩
 |s::l,A,c,r,h=>by
  change JcN A s (fun A'=>JeY l A' c)=some r at h;obtain⟨A1,h1,h2⟩:=Ja7 h;obtain⟨A2,h3,h4⟩:=Jbz h2;refine⟨A2,?_,h4⟩;rw[h3,h1];rfl
def dcF (A:AL) (x:V) (c:V→FO):FO:=match x with
 |.nslice z=>c (.slice z [])
 |.own s z n=>JaM none (fun y=>@Prod.rec _ _ (fun _=>FO) (fun z' y=>@Prod.rec _ _ (fun _=>FO) (fun rows f=>bo (Nat.beq z' z) (bo (Nat.beq (Jt rows) n) (@Fz.rec (fun _=>FO) (c (.slice z rows)) (c (.slice z rows)) none f) none) none) y) y) s A
 |x=>bo x.datC (c x) none
theorem JbJ {A:AL} {x:V} {c:V→FO} {r:V} (h:dcF A x c=some r):∃y,toDC (elG A) x=some y∧c y=some r:=by
 unfold dcF at h;unfold toDC;split at h
 ·exact⟨_,rfl,h⟩
 ·rename_i s z n;rw[JF] at h;cases q:elG A s with
  |none=>rw[q] at h;cases h
  |some y=>
   obtain⟨z',rows,f⟩:=y;rw[q] at h;change bo (Nat.beq z' z) (bo (Nat.beq (Jt rows) n) (@Fz.rec (fun _=>FO) (c (.slice z rows)) (c (.slice z rows)) none f) none) none=some r at h;rcases Jc h with ⟨h1,h2⟩|⟨_,h2⟩<;>try (cases h2;done)
   rcases Jc h2 with ⟨h3,h4⟩|⟨_,h4⟩<;>try (cases h4;done)
   rw[Jm] at h3;cases f with
   |dead=>cases h4
   |live=>exact⟨_,by simp only[q];rw[GC ⟨JD h1,JD h3,by decide⟩],h4⟩
   |frz=>exact⟨_,by simp only[q];rw[GC ⟨JD h1,JD h3,by decide⟩],h4⟩
 ·rename_i h1 h2;rcases Jc h with ⟨h3,h4⟩|⟨_,h4⟩<;>try (cases h4;done)
  refine⟨x,?_,h4⟩;split
  ·rename_i z;exact absurd rfl (h1 z)
  ·rename_i s z n;exact absurd rfl (h2 s z n)
  ·rw[GC h3]
def dcL (A:AL) (l:List V):(List V→FO)→FO:=@List.rec V (fun _=>(List V→FO)→FO) (fun c=>c []) (fun x _ ih c=>dcF A x fun y=>ih fun ys=>c (y::ys)) l
theorem JeL {A:AL}:∀{l:List V} {c:List V→FO} {r:V},dcL A l c=some r→∃ys,Js (toDC (elG A)) l=some ys∧c ys=some r
 |[],c,r,h=>⟨[],rfl,h⟩
 |x::l,c,r,h=>by
  change dcF A x (fun y=>dcL A l fun ys=>c (y::ys))=some r at h;obtain⟨y,h1,h2⟩:=JbJ h;obtain⟨ys,h3,h4⟩:=JeL h2;exact⟨y::ys,by simp only[Js,h1,h3,Option.bind_some],h4⟩
def dF (A:AL) (x:V) (c:V→FO):FO:=match x with
 |.agg cs=>dcL A cs fun ys=>c (.agg ys)
 |x=>dcF A x c
theorem JhW {A:AL} {x:V} {c:V→FO} {r:V} (h:dF A x c=some r):∃y,toD (elG A) x=some y∧c y=some r:=by
 unfold dF at h;split at h
 ·obtain⟨ys,h1,h2⟩:=JeL h;exact⟨_,by simp only[toD,h1,Option.map_some],h2⟩
 ·rename_i hx;obtain⟨y,h1,h2⟩:=JbJ h;refine⟨y,?_,h2⟩;unfold toD;split
  ·rename_i cs;exact absurd rfl (hx cs)
  ·exact h1
def dL (A:AL) (l:List V):(List V→FO)→FO:=@List.rec V (fun _=>(List V→FO)→FO) (fun c=>c []) (fun x _ ih c=>dF A x fun y=>ih fun ys=>c (y::ys)) l
theorem JdI {A:AL}:∀{l:List V} {c:List V→FO} {r:V},dL A l c=some r→∃ys,Js (toD (elG A)) l=some ys∧c ys=some r
 |[],c,r,h=>⟨[],rfl,h⟩
 |x::l,c,r,h=>by
  change dF A x (fun y=>dL A l fun ys=>c (y::ys))=some r at h;obtain⟨y,h1,h2⟩:=JhW h;obtain⟨ys,h3,h4⟩:=JdI h2;exact⟨y::ys,by simp only[Js,h1,h3,Option.bind_some],h4⟩
def JkY (s:Nat) (x:Arg):FE:=fun κ d e ρ μ A k=>axc e ρ x fun v=>match v with
 |.own s' z n=>bo (Nat.beq s' s) (dcF A (.own s z n) fun y=>JcN A s fun A'=>k y μ A') none
 |_=>none
def ldF (cs:List V) (off:Nat) (n:Option Nat):FO:=@Option.rec _ (fun _=>FO) (Jak cs off) (fun n=>bo (Nat.ble (Nat.add off n) (Jt cs)) (some (V.agg (JcG (Jcr cs off) n))) none) n
theorem Jcv (cs:List V) (off:Nat) (n:Option Nat):ldF cs off n=J6 cs off n:=by
 cases n with
 |none=>exact JX cs off
 |some n=>
  show bo (Nat.ble (Nat.add off n) (Jt cs)) (some (V.agg (JcG (Jcr cs off) n))) none=if off+n≤cs.length then some (.agg ((cs.drop off).take n)) else none
  rw[Jm,Jbg,Ja5];by_cases h:off+n≤cs.length
  ·rw[GC h,show Nat.ble (Nat.add off n) cs.length=true from by rw[Nat.ble_eq];exact h]
  ·rw[GA h,show Nat.ble (Nat.add off n) cs.length=false from by rw[Bool.eq_false_iff];exact fun q=>h (Nat.le_of_ble_eq_true q)]
def l_v (n:Option Nat) (s:Nat) (p:V) (μ:ML) (c:V→FO):FO:=match p with
 |.lref s' off=>bo (Nat.beq s' s) (JaM none (fun m=>@Prod.rec _ _ (fun _=>FO) (fun cs _=>oc (ldF cs off n) c) m) s μ) none
 |_=>none
theorem Jfa {n:Option Nat} {s:Nat} {p:V} {ρ:EL V} {μ:ML} {A:AL} {c:V→FO} {r:V} (h:l_v n s p μ c=some r):∃v,Jy (den ρ μ A) (.v s) n p=some v∧c v=some r:=by
 unfold l_v at h;split at h<;>try (cases h;done)
 rename_i s' off;rcases Jc h with ⟨h1,h2⟩|⟨_,h2⟩<;>try (cases h2;done)
 rw[JF] at h2;cases q:elG μ s with
 |none=>rw[q] at h2;cases h2
 |some m=>
  obtain⟨cs,b⟩:=m;rw[q] at h2;obtain⟨v,h3,h4⟩:=Jg h2;rw[Jcv] at h3;refine⟨v,?_,h4⟩
  show (if s'=s then (elG μ s).bind _ else none)=_
  rw[GC (JD h1),q,Option.bind_some];exact h3
def l_e (n:Option Nat) (s i off m:Nat) (A:AL) (c:V→FO):FO:=
 JaM none (fun y=>@Prod.rec _ _ (fun _=>FO) (fun _ y=>@Prod.rec _ _ (fun _=>FO) (fun rows f=>bo (Nat.beq (Jt rows) m) (@Fz.rec (fun _=>FO) (oc (Jak rows i) fun r=>oc (ldF r off n) c) (oc (Jak rows i) fun r=>oc (ldF r off n) c) none f) none) y) y) s A
theorem Je9 {n:Option Nat} {s i off m:Nat} {A:AL} {c:V→FO} {r:V} (h:l_e n s i off m A c=some r) :
  ∃v,(match elG A s with|some (_,rows,f)=>if rows.length=m∧f≠.dead then (rows[i]?).bind fun r=>J6 r off n else none|none=>none)=some v∧c v=some r:=by
 unfold l_e at h
 rw[JF] at h
 cases q:elG A s with
 |none=>rw[q] at h;cases h
 |some y=>
  obtain⟨z,rows,f⟩:=y
  rw[q] at h
  change bo (Nat.beq (Jt rows) m) (@Fz.rec (fun _=>FO) (oc (Jak rows i) fun r=>oc (ldF r off n) c) (oc (Jak rows i) fun r=>oc (ldF r off n) c) none f) none=some r at h
  rcases Jc h with ⟨h1,h2⟩|⟨_,h2⟩<;>try (cases h2;done)
  rw[Jm] at h1
  have key:oc (Jak rows i) (fun r=>oc (ldF r off n) c)=some r→f≠.dead→∃v,(if rows.length=m∧f≠.dead then (rows[i]?).bind fun r=>J6 r off n else none)=some v∧c v=some r:=fun h3 hf=>by
   obtain⟨r0,h4,h5⟩:=Jg h3;obtain⟨v,h6,h7⟩:=Jg h5;rw[JX] at h4;rw[Jcv] at h6;exact⟨v,by rw[GC ⟨JD h1,hf⟩,h4,Option.bind_some,h6],h7⟩
  cases f with
  |dead=>cases h2
  |live=>exact key h2 (by decide)
  |frz=>exact key h2 (by decide)
def Je2 (n:Option Nat) (s:Nat) (p:V) (A:AL) (c:V→FO):FO:=match p with
 |.eref s' i off m=>bo (Nat.beq s' s) (l_e n s i off m A c) none
 |_=>none
def ldX (n:Option Nat) (p:V) (A:AL) (c:V→FO):FO:=match p with
 |.eref s' i off m=>l_e n s' i off m A c
 |_=>none
def ldC (n:Option Nat) (p:V) (c:V→FO):FO:=match p with
 |.cptr cs off=>oc (ldF cs off n) c
 |_=>none
def JiH (l:Loc) (n:Option Nat) (p:Arg):FE:=fun κ d e ρ μ A k=>axc e ρ p fun p=>@Loc.rec (fun _=>FO)
 (fun s=>l_v n s p μ fun v=>k v μ A) (fun s=>Je2 n s p A fun v=>k v μ A) (ldC n p fun v=>k v μ A) (ldX n p A fun v=>k v μ A) l
def fzstE (n s i off m:Nat) (xs:List V) (A:AL) (c:AL→FO):FO:=bo (alF V.datC xs)
 (JaM none (fun y=>@Prod.rec _ _ (fun _=>FO) (fun z y=>@Prod.rec _ _ (fun _=>FO) (fun rows f=>@Fz.rec (fun _=>FO)
  (eqLnR rows m (oc (Jak rows i) fun r=>oc (saF xs r off) fun r'=>JN s (z,Jc3 rows r' i,.live) A c)) none none f) y) y) s A) none
where eqLnR (rows:List (List V)) (m:Nat) (k:FO):FO:=bo (Nat.beq (Jt rows) m) k none
theorem JfG {n s i off m:Nat} {xs:List V} {ρ:EL V} {μ:ML} {A:AL} {c:AL→FO} {r:V} (h:fzstE n s i off m xs A c=some r):∃A',xs.all V.datC=true∧
  (match elG A s with
    |some (z,rows,.live)=>if rows.length=m then (rows[i]?).bind fun r=>(JH r off xs).bind fun r'=>
      some {den ρ μ A with A:=upd (elG A) s (some (z,rows.set i r',.live))} else none
    |_=>none)=some (den ρ μ A')∧c A'=some r:=by
 unfold fzstE at h
 rcases Jc h with ⟨h1,h2⟩|⟨_,h2⟩<;>try (cases h2;done)
 rw[Jbj] at h1
 rw[JF] at h2
 cases q:elG A s with
 |none=>rw[q] at h2;cases h2
 |some y=>
  obtain⟨z,rows,f⟩:=y
  rw[q] at h2
  cases f with
  |frz=>cases h2
  |dead=>cases h2
  |live=>
   change bo (Nat.beq (Jt rows) m) (oc (Jak rows i) fun r=>oc (saF xs r off) fun r'=>JN s (z,Jc3 rows r' i,.live) A c) none=some r at h2
   rcases Jc h2 with ⟨h3,h4⟩|⟨_,h4⟩<;>try (cases h4;done)
   rw[Jm] at h3
   obtain⟨r0,h5,h6⟩:=Jg h4
   obtain⟨r',h7,h8⟩:=Jg h6
   rw[JX] at h5
   rw[Jp,Jbe] at h8
   refine⟨_,h1,?_,h8⟩
   simp only
   rw[GC (JD h3),h5,Option.bind_some,JcB h7,Option.bind_some]
   simp only[den,JR]
def Jgy (l:Loc) (n:Nat) (p x:Arg):FE:=fun κ d e ρ μ A k=>axc e ρ p fun p=>axc e ρ x fun x=>oc x.cells fun xs=>Jgr xs n (@Loc.rec (fun _=>FO)
 (fun s=>match p with
  |.lref s' off=>bo (Nat.beq s' s) (JaM none (fun m=>@Prod.rec _ _ (fun _=>FO) (fun cs b=>bo b none (oc (saF xs cs off) fun cs'=>JN s (cs',false) μ fun μ'=>k .undef μ' A)) m) s μ) none
  |_=>none)
 (fun s=>match p with
  |.eref s' i off m=>bo (Nat.beq s' s) (fzstE n s i off m xs A fun A'=>k .undef μ A') none
  |_=>none)
 none
 (match p with
  |.eref s i off m=>fzstE n s i off m xs A fun A'=>k .undef μ A'
  |_=>none) l)
def JkM (ne:Bool) (sh:List Sh) (x y:V):FO:=match x,y with
 |.agg xs,.agg ys=>(JbK sh xs ys).bind fun b=>some (.bool (ne ^^ b))
 |_,_=>none
def JkN (ne:Bool) (x y:V):FO:=match x,y with
 |.bool a,.bool b=>some (.bool (ne ^^ (a == b)))
 |_,_=>none
def mmV (mx:Bool) (x y:V):FO:=match x,y with
 |.int k a,.int k' b=>if k=k' then some (.int k (if (if mx then a<b else b<a) then b else a)) else none
 |_,_=>none
def f_fn (f:Nat) (cap:List Arg) (sites:List Nat):FE:=fun κ d e ρ μ A k=>if sites.all (JL (elG μ)) then
 Jdb e ρ cap fun cap=>oc (Js (capV (elG μ) sites) cap) fun cs=>frmL sites μ fun μ'=>k (.func f cs) μ' A else none
where
 frmL (l:List Nat):ML→(ML→FO)→FO:=@List.rec Nat (fun _=>ML→(ML→FO)→FO) (fun μ c=>c μ) (fun s _ ih μ c=>JaM (ih μ c) (fun m=>@Prod.rec _ _ (fun _=>FO) (fun cs _=>JN s (cs,true) μ fun μ'=>ih μ' c) m) s μ) l
theorem Jcu:∀{l:List Nat} {μ:ML} {c:ML→FO} {r:V},f_fn.frmL l μ c=some r→∃μ',elG μ'=Jaf (elG μ) l∧c μ'=some r
 |[],μ,c,r,h=>⟨μ,rfl,h⟩
 |s::l,μ,c,r,h=>by
  change JaM (f_fn.frmL l μ c) (fun m=>@Prod.rec _ _ (fun _=>FO) (fun cs _=>JN s (cs,true) μ fun μ'=>f_fn.frmL l μ' c) m) s μ=some r at h;rw[JF] at h;cases q:elG μ s with
  |none=>
   rw[q] at h;obtain⟨μ',h1,h2⟩:=Jcu (l:=l) (μ:=μ) h;refine⟨μ',?_,h2⟩;rw[h1]
   show _=Jaf (upd (elG μ) s _) l
   rw[q]
   congr 1
   funext i;unfold upd;split
   ·rename_i e;rw[e,q];rfl
   ·rfl
  |some m=>
   obtain⟨cs,b⟩:=m;rw[q] at h;change JN s (cs,true) μ (fun μ'=>f_fn.frmL l μ' c)=some r at h;rw[Jp] at h;obtain⟨μ',h1,h2⟩:=Jcu (l:=l) h;refine⟨μ',?_,h2⟩;rw[h1,JR]
   show _=Jaf (upd (elG μ) s _) l
   rw[q];rfl
def bdF (x:Option V) (dflt:Nat) (c:Nat→FO):FO:=@Option.rec _ (fun _=>FO) (c dflt) (fun v=>match v with
 |.int _ n=>@Int.rec (fun _=>FO) (fun m=>c m) (fun _=>none) n
 |_=>none) x
theorem Jcm {x:Option V} {dflt:Nat} {c:Nat→FO} {r:V} (h:bdF x dflt c=some r):∃n,bound x dflt=some n∧c n=some r:=by
 cases x with
 |none=>exact⟨dflt,rfl,h⟩
 |some v=>
  cases v<;>try (cases h;done)
  rename_i k n;cases n with
  |negSucc _=>cases h
  |ofNat m=>exact⟨m,rfl,h⟩
def slF (st:Bool) (z:Nat) (x:V) (lo hi:Option V):FO:=match st,x with
 |true,.str s=>bdF hi (Jt s) fun h=>bdF lo 0 fun l=>bo (Nat.ble l h) (bo (Nat.ble h (Jt s)) (some (.str (Jcr (JcG s h) l))) none) none
 |false,.slice z' rows=>bdF hi (Jt rows) fun h=>bdF lo 0 fun l=>bo (Nat.beq z' z) (bo (Nat.ble l h) (bo (Nat.ble h (Jt rows)) (some (.slice z (Jcr (JcG rows h) l))) none) none) none
 |_,_=>none
theorem Jdz {st:Bool} {z:Nat} {x:V} {lo hi:Option V} {v:V} (h:slF st z x lo hi=some v):slV st z x lo hi=some v:=by
 unfold slF at h;split at h
 ·rename_i s;rw[Jm] at h;obtain⟨hh,h1,h2⟩:=Jcm h;obtain⟨l,h3,h4⟩:=Jcm h2;rcases Jc h4 with ⟨h5,h6⟩|⟨_,h6⟩<;>try (cases h6;done)
  rcases Jc h6 with ⟨h7,h8⟩|⟨_,h8⟩<;>try (cases h8;done)
  rw[Ja5,Jbg] at h8
  show (bound hi s.length).bind _=_
  rw[h1,Option.bind_some,h3,Option.bind_some,GC ⟨Nat.le_of_ble_eq_true h5,Nat.le_of_ble_eq_true h7⟩,h8]
 ·rename_i z' rows;rw[Jm] at h;obtain⟨hh,h1,h2⟩:=Jcm h;obtain⟨l,h3,h4⟩:=Jcm h2;rcases Jc h4 with ⟨h9,h4⟩|⟨_,h6⟩<;>try (cases h6;done)
  rcases Jc h4 with ⟨h5,h6⟩|⟨_,h6⟩<;>try (cases h6;done)
  rcases Jc h6 with ⟨h7,h8⟩|⟨_,h8⟩<;>try (cases h8;done)
  rw[Ja5,Jbg] at h8
  show (bound hi rows.length).bind _=_
  rw[h1,Option.bind_some,h3,Option.bind_some,GC ⟨JD h9,Nat.le_of_ble_eq_true h5,Nat.le_of_ble_eq_true h7⟩,h8]
 ·cases h
def Jme (st:Bool) (z:Nat) (x:Arg) (lo hi:Option Arg):FE:=fun κ d e ρ μ A k=>axc e ρ x fun x=>Jc9 e ρ lo fun lo=>Jc9 e ρ hi fun hi=>oc (slF st z x lo hi) fun v=>k v μ A
def JiU (z:Nat) (x i:V):FO:=match x,i with
 |.slice z' rows,.int _ n=>bo (Nat.beq z' z) (@Int.rec (fun _=>FO) (fun m=>oc (Jak rows m) fun r=>some (.cptr r 0)) (fun _=>none) n) none
 |.own s z' m,.int _ n=>bo (Nat.beq z' z) (@Int.rec (fun _=>FO) (fun j=>bo (Nat.blt j m) (some (.eref s j 0 m)) none) (fun _=>none) n) none
 |_,_=>none
theorem JgI {z:Nat} {x i v:V} (h:JiU z x i=some v):Ja9 z x i=some v:=by
 unfold JiU at h;split at h
 ·rename_i z' rows k n;rcases Jc h with ⟨h1,h2⟩|⟨_,h2⟩<;>try (cases h2;done)
  cases n with
  |negSucc _=>cases h2
  |ofNat m=>
   obtain⟨r,h3,h4⟩:=Jg h2;rw[JX] at h3
   show (if z'=z∧(0:Int)≤(m:Int) then (rows[(m:Int).toNat]?).map fun r=>V.cptr r 0 else none)=_
   rw[GC ⟨JD h1,by omega⟩,Int.toNat_natCast,h3];exact h4
 ·rename_i s z' m k n;rcases Jc h with ⟨h1,h2⟩|⟨_,h2⟩<;>try (cases h2;done)
  cases n with
  |negSucc _=>cases h2
  |ofNat j=>
   rcases Jc h2 with ⟨h3,h4⟩|⟨_,h4⟩<;>try (cases h4;done)
   have:=Nat.le_of_ble_eq_true h3
   show (if z'=z∧(0:Int)≤(j:Int)∧(j:Int)<m then some (V.eref s (j:Int).toNat 0 m) else none)=_
   rw[GC ⟨JD h1,by omega,by omega⟩,Int.toNat_natCast];exact h4
 ·cases h
def Jdj (x i:V):FO:=match x,i with
 |.str s,.int _ n=>@Int.rec (fun _=>FO) (fun m=>oc (Jak s m) fun b=>some (.int .u8 (Int.ofNat b.toNat))) (fun _=>none) n
 |_,_=>none
theorem JgK {x i v:V} (h:Jdj x i=some v):Jed x i=some v:=by
 unfold Jdj at h;split at h
 ·rename_i s k n;cases n with
  |negSucc _=>cases h
  |ofNat m=>
   obtain⟨b,h3,h4⟩:=Jg h;rw[JX] at h3
   show (if (0:Int)≤(m:Int) then (s[(m:Int).toNat]?).map fun b=>V.int .u8 b.toNat else none)=_
   rw[GC (by omega),Int.toNat_natCast,h3];exact h4
 ·cases h
def JiC (i:Nat) (x:V):FO:=match x with
 |.tuple vs=>Jak vs i
 |_=>none
theorem Jgu {i:Nat} {x v:V} (h:JiC i x=some v):JeT i x=some v:=by
 unfold JiC at h;split at h
 ·rw[JX] at h;exact h
 ·cases h
def Ji9 (st:Bool) (x:V):FO:=match st,x with
 |false,.slice _ rows=>some (.int .i64 (Int.ofNat (Jt rows)))
 |true,.str s=>some (.int .i64 (Int.ofNat (Jt s)))
 |false,.own _ _ n=>some (.int .i64 (Int.ofNat n))
 |_,_=>none
theorem JgO {st:Bool} {x v:V} (h:Ji9 st x=some v):Jdm st x=some v:=by
 unfold Ji9 at h;split at h
 ·rw[Jm] at h;exact h
 ·rw[Jm] at h;exact h
 ·exact h
 ·cases h
def JdM (n:Nat) (k:FO):FO:=bo (Nat.ble n lim) k none
theorem JcT {n:Nat} {k:FO} {r:V} (h:JdM n k=some r):n≤lim∧k=some r:=by
 rcases Jc h with ⟨h1,h2⟩|⟨_,h2⟩
 ·exact⟨Nat.le_of_ble_eq_true h1,h2⟩
 ·cases h2
def roF (z:Nat) (x:V) (c:List (List V)→FO):FO:=match x with
 |.slice z' rows=>bo (Nat.beq z' z) (c rows) none
 |.str s=>bo (Nat.beq z 1) (c (mpF (fun b=>[.int .u8 (Int.ofNat b.toNat)]) s)) none
 |x=>oc (V.rowsOf z x) c
theorem Jfy {z:Nat} {x:V} {c:List (List V)→FO} {r:V} (h:roF z x c=some r):∃ys,V.rowsOf z x=some ys∧c ys=some r:=by
 unfold roF at h;split at h
 ·rcases Jc h with ⟨h1,h2⟩|⟨_,h2⟩<;>try (cases h2;done)
  exact⟨_,GC (JD h1),h2⟩
 ·rcases Jc h with ⟨h1,h2⟩|⟨_,h2⟩<;>try (cases h2;done)
  rw[Jfe] at h2;exact⟨_,GC (JD h1),h2⟩
 ·exact Jg h
def apF (s z n:Nat) (y:V) (A:AL) (c:V→AL→FO):FO:=
 JaM none (fun w=>@Prod.rec _ _ (fun _=>FO) (fun z' w=>@Prod.rec _ _ (fun _=>FO) (fun rows f=>@Fz.rec (fun _=>FO)
  (bo (Nat.beq z' z) (bo (Nat.beq (Jt rows) n) (roF z y fun ys=>JdM (Nat.add n (Jt ys)) (JN s (z,JbF rows ys,.live) A fun A'=>c (.own s z (Nat.add n (Jt ys))) A')) none) none) none none f) w) w) s A
theorem Jez {s z n:Nat} {y:V} {ρ:EL V} {μ:ML} {A:AL} {c:V→AL→FO} {r:V} (h:apF s z n y A c=some r):∃v A',J8 (den ρ μ A) s z (.own s z n) y=some (v,den ρ μ A')∧c v A'=some r:=by
 unfold apF at h;rw[JF] at h;cases q:elG A s with
 |none=>rw[q] at h;cases h
 |some w=>
  obtain⟨z',rows,f⟩:=w;rw[q] at h;cases f with
  |frz=>cases h
  |dead=>cases h
  |live=>
   change bo (Nat.beq z' z) (bo (Nat.beq (Jt rows) n) (roF z y fun ys=>JdM (Nat.add n (Jt ys)) (JN s (z,JbF rows ys,.live) A fun A'=>c (.own s z (Nat.add n (Jt ys))) A')) none) none=some r at h;rcases Jc h with ⟨h1,h2⟩|⟨_,h2⟩<;>try (cases h2;done)
   rcases Jc h2 with ⟨h3,h4⟩|⟨_,h4⟩<;>try (cases h4;done)
   rw[Jm] at h3;obtain⟨ys,h5,h6⟩:=Jfy h4;obtain⟨h7,h8⟩:=JcT h6;rw[Jp,Jm,JaF] at h8;rw[Jm] at h7;have hz:=JD h1;have hn:=JD h3;subst hz;subst hn;refine⟨_,_,?_,h8⟩
   show (if s=s∧z'=z' then (match elG A s with
    |some (z'',rows,.live)=>if z''=z'∧rows.length=_ then (V.rowsOf z' y).bind _ else none
    |_=>none) else none)=_
   rw[GC ⟨rfl,rfl⟩];simp only[q,and_self,GF,h5,Option.bind_some];rw[GC (show rows.length+ys.length≤lim from h7)];simp only[den,JR];rfl
def apV (s z:Nat) (x y:V) (A:AL) (c:V→AL→FO):FO:=match x with
 |.own s' z' n=>bo (Nat.beq s' s) (bo (Nat.beq z' z) (apF s z n y A c) none) none
 |_=>none
theorem JeA {s z:Nat} {x y:V} {ρ:EL V} {μ:ML} {A:AL} {c:V→AL→FO} {r:V} (h:apV s z x y A c=some r):∃v A',J8 (den ρ μ A) s z x y=some (v,den ρ μ A')∧c v A'=some r:=by
 unfold apV at h;split at h<;>try (cases h;done)
 rcases Jc h with ⟨h1,h2⟩|⟨_,h2⟩<;>try (cases h2;done)
 rcases Jc h2 with ⟨h3,h4⟩|⟨_,h4⟩<;>try (cases h4;done)
 rw[JD h1,JD h3];exact Jez h4
def JkT (s z:Nat) (x y:Arg):FE:=fun κ d e ρ μ A k=>axc e ρ x fun x=>axc e ρ y fun y=>match x with
 |.nslice z'=>bo (Nat.beq z' z) (fresh A s (roF z y fun ys=>JdM (Jt ys) (JN s (z,ys,.live) A fun A'=>k (.own s z (Jt ys)) μ A'))) none
 |x=>apV s z x y A fun v A'=>k v μ A'
def JkS (s z:Nat) (x y:Arg):FE:=fun κ d e ρ μ A k=>axc e ρ x fun x=>axc e ρ y fun y=>apV s z x y A fun v A'=>dcF A' v fun w=>JcN A' s fun A''=>k w μ A''
def JkZ (f s z:Nat) (x i y:Arg):FE:=fun κ d e ρ μ A k=>axc e ρ x fun x=>axc e ρ i fun i=>axc e ρ y fun y=>match x,i,y with
 |.own s' z' n,.int .i64 j,.slice z'' ys=>if s'=s∧z'=z∧z''=z then match elG A s with
   |some (z3,rows,.live)=>if z3=z∧rows.length=n∧0≤j∧j≤n∧rows.length+ys.length≤lim then
     JN s (z,rows.take j.toNat++(ys++rows.drop j.toNat),.live) A fun A'=>k (.own s z (rows.length+ys.length)) μ A'
    else none
   |_=>none
  else none
 |_,_,_=>none
def JkX (f s z:Nat) (x i j:Arg):FE:=fun κ d e ρ μ A k=>axc e ρ x fun x=>axc e ρ i fun i=>axc e ρ j fun j=>match x,i,j with
 |.own s' z' n,.int .i64 a,.int .i64 m=>if s'=s∧z'=z then match elG A s,elG A d with
   |some (z3,rows,.live),none=>if z3=z∧rows.length=n∧0≤a∧a≤m∧m≤n∧n≤lim then
     JN s (z,[],.dead) A fun A'=>JN d (z,rows.take a.toNat++rows.drop m.toNat,.live) A' fun A''=>k (.own d z (rows.take a.toNat++rows.drop m.toNat).length) μ A''
    else none
   |_,_=>none
  else none
 |_,_,_=>none
def caF (e ρ:EL V) (c:Cal) (k:Nat→List V→FO):FO:=@Cal.rec (fun _=>FO) (fun f=>k f []) (fun x=>axc e ρ x fun v=>match v with
 |.func f cap=>k f cap
 |_=>none) c
theorem Jif {e ρ:EL V} {c:Cal} {k:Nat→List V→FO} {r:V} (h:caF e ρ c k=some r):∃f cap,callee (elR e) (elR ρ) c=some (f,cap)∧k f cap=some r:=by
 cases c with
 |k f=>exact⟨f,[],rfl,h⟩
 |v x=>
  change axc e ρ x (fun v=>match v with|.func f cap=>k f cap|_=>none)=some r at h;rw[Jk] at h;split at h<;>try (cases h;done)
  rename_i f cap q;exact⟨f,cap,by simp only[callee,q],h⟩
def Jd5 (x:V):Bool:=match x with
 |.agg cs=>alF V.datC cs
 |x=>x.datC
theorem Jcq (x:V):Jd5 x=x.dat:=by
 cases x<;>first|rfl|exact Jbj _ _
def Jde (f:Cal) (cv:Cvm) (own:Option Nat) (xs:List Arg):FE:=fun κ d e ρ μ A k=>caF e ρ f fun g cap=>Jdb e ρ xs fun vs=>@Cvm.rec (fun _=>FO)
 (bo (alF Jd5 vs) (oc (κ g (JbF vs cap)) fun r=>JbE d own r μ A k) none)
 (dL A vs fun bs=>oc (κ g (JbF bs cap)) fun r=>bo r.scalar (k r μ A) none)
 (dL A vs fun bs=>oc (κ g (JbF bs cap)) fun r=>JeY (vs.flatMap Jf) A fun A'=>JbE d own r μ A' k) cv
def Jh0:V→FO
 |.lref s o=>some (.lref s o)
 |.eref s i o n=>some (.eref s i o n)
 |.cptr cs o=>some (.cptr cs o)
 |_=>none
def Jk1 (s v n:Nat) (p:Arg):FE:=fun κ d e ρ μ A k=>axc e ρ p fun p=>l_v (some n) v p μ fun x=>if (Jf x).all (· == s) then dF A x fun y=>JcN A s fun A'=>k y μ A' else none
def haC (x:V) (A:AL) (c:V→AL→FO):FO:=match x with
 |.own s z n=>JaM none (fun w=>@Prod.rec _ _ (fun _=>FO) (fun z' w=>@Prod.rec _ _ (fun _=>FO) (fun rows f=>@Fz.rec (fun _=>FO)
   (bo (Nat.beq z' z) (bo (Nat.beq (Jt rows) n) (JN s (z,[],.dead) A fun A'=>c (.tuple [.slice z rows]) A') none) none) none none f) w) w) s A
 |.nslice z=>c (.tuple [.slice z []]) A
 |x=>bo x.datC (c x A) none
theorem JiN {x:V} {A:AL} {c:V→AL→FO} {r:V} (h:haC x A c=some r):∃y A',handC (elG A) x=some (y,elG A')∧c y A'=some r:=by
 unfold haC at h;split at h
 ·rename_i s z n;rw[JF] at h;cases q:elG A s with
  |none=>rw[q] at h;cases h
  |some w=>
   obtain⟨z',rows,f⟩:=w;rw[q] at h;cases f with
   |frz=>cases h
   |dead=>cases h
   |live=>
    change bo (Nat.beq z' z) (bo (Nat.beq (Jt rows) n) (JN s (z,[],.dead) A fun A'=>c (.tuple [.slice z rows]) A') none) none=some r at h;rcases Jc h with ⟨h1,h2⟩|⟨_,h2⟩<;>try (cases h2;done)
    rcases Jc h2 with ⟨h3,h4⟩|⟨_,h4⟩<;>try (cases h4;done)
    rw[Jm] at h3;rw[Jp] at h4;refine⟨_,_,?_,h4⟩;simp only[handC,q];rw[GC ⟨JD h1,JD h3⟩,JR]
 ·exact⟨_,_,rfl,h⟩
 ·rename_i h1 h2;rcases Jc h with ⟨h3,h4⟩|⟨_,h4⟩<;>try (cases h4;done)
  refine⟨x,A,?_,h4⟩;unfold handC;split
  ·rename_i s z n;exact absurd rfl (h1 s z n)
  ·rename_i z;exact absurd rfl (h2 z)
  ·rw[GC h3]
def haL (l:List V):AL→(List V→AL→FO)→FO:=@List.rec V (fun _=>AL→(List V→AL→FO)→FO) (fun A c=>c [] A) (fun x _ ih A c=>haC x A fun y A'=>ih A' fun ys A''=>c (y::ys) A'') l
theorem Je3:∀{l:List V} {A:AL} {c:List V→AL→FO} {r:V},haL l A c=some r→∃ys A',Jaj l (elG A)=some (ys,elG A')∧c ys A'=some r
 |[],A,c,r,h=>⟨[],A,rfl,h⟩
 |x::l,A,c,r,h=>by
  change haC x A (fun y A'=>haL l A' fun ys A''=>c (y::ys) A'')=some r at h;obtain⟨y,A1,h1,h2⟩:=JiN h;obtain⟨ys,A2,h3,h4⟩:=Je3 h2;exact⟨y::ys,A2,by simp only[Jaj,h1,Option.bind_some,h3],h4⟩
def taC (d:Nat) (x:V) (A:AL) (c:V→AL→FO):FO:=match x with
 |.tuple [.slice z rows]=>fresh A d (JN d (z,rows,.live) A fun A'=>c (.own d z (Jt rows)) A')
 |x=>bo x.datC (c x A) none
theorem Jj6 {d:Nat} {x:V} {A:AL} {c:V→AL→FO} {r:V} (h:taC d x A c=some r):∃y A',takeC d (elG A) x=some (y,elG A')∧c y A'=some r:=by
 unfold taC at h;split at h
 ·obtain⟨h1,h2⟩:=JV h;rw[Jp,Jm] at h2;exact⟨_,_,by simp only[takeC,h1,JR],h2⟩
 ·rename_i h1;rcases Jc h with ⟨h3,h4⟩|⟨_,h4⟩<;>try (cases h4;done)
  refine⟨x,A,?_,h4⟩;unfold takeC;split
  ·rename_i z rows;exact absurd rfl (h1 z rows)
  ·rw[GC h3]
def taL (l:List V):Nat→AL→(List V→AL→FO)→FO:=@List.rec V (fun _=>Nat→AL→(List V→AL→FO)→FO) (fun _ A c=>c [] A) (fun x _ ih d A c=>taC d x A fun y A'=>ih (Nat.succ d) A' fun ys A''=>c (y::ys) A'') l
theorem Jb2:∀{l:List V} {d:Nat} {A:AL} {c:List V→AL→FO} {r:V},taL l d A c=some r→∃ys A',JT d l (elG A)=some (ys,elG A')∧c ys A'=some r
 |[],d,A,c,r,h=>⟨[],A,rfl,h⟩
 |x::l,d,A,c,r,h=>by
  change taC d x A (fun y A'=>taL l (d+1) A' fun ys A''=>c (y::ys) A'')=some r at h;obtain⟨y,A1,h1,h2⟩:=Jj6 h;obtain⟨ys,A2,h3,h4⟩:=Jb2 h2;exact⟨y::ys,A2,by simp only[JT,h1,Option.bind_some,h3],h4⟩
def Jgx (f:Nat) (xs:List Arg) (k s b:Nat):FE:=fun κ d e ρ μ A c=>Jdb e ρ xs fun vs=>oc (Jak vs k) fun p=>match p with
 |.lref s' 0=>bo (Nat.beq s' s) (dL A (Jc3 vs .undef k) fun bs=>JaM none (fun m=>@Prod.rec _ _ (fun _=>FO) (fun cs fz=>bo fz none
   (JeY ((Jc3 vs .undef k).flatMap Jf) A fun A1=>haL cs A1 fun us A2=>oc (κ f (Jc3 bs (.tuple (.lref 0 0::us)) k)) fun r=>match r with
    |.tuple [r0,.tuple ws]=>taL ws b A2 fun ts A3=>JN s (ts,false) μ fun μ'=>c r0 μ' A3
    |_=>none)) m) s μ) none
 |_=>none
def JiE (z:List V) (b:Nat):FE:=fun κ d e ρ μ A k=>fresh μ d (taL (z.map nilT) b A fun ts A'=>JN d (ts,false) μ fun μ'=>k (.lref d 0) μ' A')
def JiG (x:Arg) (b:Nat):FE:=fun κ d e ρ μ A k=>fresh μ d (axc e ρ x fun x=>match x with
 |.agg cs=>bo (alF V.datC cs) (taL (cs.map nilT) b A fun ts A'=>JN d (ts,false) μ fun μ'=>k (.lref d 0) μ' A') none
 |_=>none)
def JiF (z:Nat) (x y:Arg):FE:=fun κ d e ρ μ A k=>axc e ρ x fun x=>axc e ρ y fun y=>match x with
 |.own s z' n=>bo (Nat.beq z' z) (apF s z n y A fun v A'=>k v μ A') none
 |_=>none
def Jk7 (z:Nat) (x:Arg) (lo hi:Option Arg):FE:=fun κ d e ρ μ A k=>axc e ρ x fun x=>Jc9 e ρ lo fun lo=>Jc9 e ρ hi fun hi=>dcF A x fun y=>oc (slF false z y lo hi) fun v=>JeY (Jd x) A fun A'=>k v μ A'
def JkU (x:Arg):FE:=fun κ d e ρ μ A k=>axc e ρ x fun x=>oc (Jf1 (elG A) x) fun v=>k v μ A
def Jdf (z s:Nat):FE:=fun κ d e ρ μ A k=>JcN A s fun A'=>fresh A' d (JN d (z,[],.live) A' fun A''=>k (.own d z 0) μ A'')
def Jk8 (s z:Nat) (x:Arg) (lo hi:Option Arg):FE:=fun κ d e ρ μ A k=>axc e ρ x fun x=>Jc9 e ρ lo fun lo=>Jc9 e ρ hi fun hi=>oc (frzD (elG A) s x) fun y=>oc (slF false z y lo hi) fun v=>k v μ A
def Jld (off:Nat) (n:Option Nat) (x:V):FO:=match x with
 |.agg cs=>ldF cs off n
 |_=>none
def Jk2 (t:Nat) (x:Arg):FE:=fun κ d e ρ μ A k=>axc e ρ x fun x=>bo (Jd5 x) (k (.iface t x) μ A) none
def Jkv (t:Nat) (z:Option (List V)) (x:V):FO:=match x with
 |.iface t' v=>if t'=t then some (match z with|none=>v|some _=>.tuple [v,.bool true]) else z.bind fun z=>some (.tuple [.agg z,.bool false])
 |.niface=>z.bind fun z=>some (.tuple [.agg z,.bool false])
 |_=>none
def Jk0 (l:List (Nat×Nat)) (x:Arg) (xs:List Arg):FE:=fun κ d e ρ μ A k=>axc e ρ x fun x=>Jdb e ρ xs fun vs=>match x with
 |.iface t v=>bo (alF Jd5 (v::vs)) (oc (l.find? (·.1 == t)) fun f=>oc (κ f.2 (v::vs)) fun r=>k r μ A) none
 |_=>none
def JkV:FE:=fun κ d e ρ μ A k=>none
def fev (k:K):FE:=@K.rec (fun _=>FE) Jk6 JiI JkW Jgv Jgw Jk5 Jk4 Jk3 (p1 Jh1) JkY JiH Jgy (fun o=>p2 (Jie o)) (fun ne sh=>p2 (JkM ne sh)) (fun ne=>p2 (JkN ne)) (fun o=>p2 (shF o)) (fun mx=>p2 (mmV mx))
 (fun o=>p1 (unV o)) (fun c=>p1 (JeH c)) f_fn Jme (fun x off=>p1 (Jdg off) x) (fun z=>p2 (JiU z)) (fun z n=>p2 (Jbr z n)) (p2 Jdj) (fun x i=>p1 (JiC i) x) (fun st=>p1 (Ji9 st)) JkT JkS JkZ JkX Jde (p1 Jh0) Jk1 Jgx JiE JiG JiF Jk7
 JkU Jdf Jk8 (fun x off n=>p1 (Jld off n) x) Jk2 (fun t z=>p1 (Jkv t z)) Jk0 JkV k
theorem JiK {κ:Nat→List V→FO} {d:Nat} {e ρ:EL V} {μ:ML} {A:AL} {c:KC} {r:V}:∀{k:K},fev k κ d e ρ μ A c=some r→∃v μ' A',ev κ d (elR e) (den ρ μ A) k=some (v,den ρ μ' A')∧c v μ' A'=some r
 |.mov x,h=>by
  change axc e ρ x _=_ at h;rw[Jk] at h;exact⟨_,_,_,rfl,h⟩
 |.pick q a b,h=>by
  change axc e ρ q _=_ at h;simp only[Jk] at h;obtain⟨w,h1,h2⟩:=Jg h;refine⟨w,μ,A,?_,h2⟩;simp only[ev,den];unfold Jh2 at h1;split at h1<;>try (cases h1;done)
  rename_i t hc;simp only[hc];rw[←Option.some.inj h1];cases t<;>rfl
 |.box x,h=>by
  obtain⟨h1,h2⟩:=JV h;rw[Jk] at h2;obtain⟨cs,h3,h4⟩:=Jg h2;rw[Jp] at h4;refine⟨_,_,_,?_,h4⟩;simp only[ev,den,h1,h3,Option.bind_some,JR]
 |.alloc z,h=>by
  obtain⟨h1,h2⟩:=JV h;rw[Jp] at h2;refine⟨_,_,_,?_,h2⟩;simp only[ev,den,h1,JR]
 |.build z ps,h=>by
  change axp e ρ ps _=_ at h;rw[JeC] at h;obtain⟨cs,h1,h2⟩:=JeU h;refine⟨_,_,_,?_,h2⟩;simp only[ev,den,h1,Option.bind_some]
 |.mks z n zero ps,h=>by
  change axq e ρ ps _=_ at h;rw[Jda] at h;obtain⟨rows,h1,h2⟩:=Jg h;refine⟨_,_,_,?_,h2⟩;simp only[ev,den,h1,Option.bind_some]
 |.mko z,h=>by
  obtain⟨h1,h2⟩:=JV h;rw[Jp] at h2;refine⟨_,_,_,?_,h2⟩;simp only[ev,den,h1,JR]
 |.mkb z n zero ps,h=>by
  change axq e ρ ps _=_ at h;rw[Jda] at h;obtain⟨rows,h1,h2⟩:=Jg h;obtain⟨v,A',h3,h4⟩:=Jbi (ρ:=ρ) h2;refine⟨_,_,_,?_,h4⟩
  show (Jr z _ _).bind _=_
  rw[show (den ρ μ A).ρ=elR ρ from rfl,h1];exact h3
 |.nilq x,h=>by
  obtain⟨w,h1,h2⟩:=Jbc (κ:=κ) (d:=d) h;refine⟨w,μ,A,?_,h2⟩;unfold Jh1 at h1;split at h1<;>try (cases h1;done)
  all_goals (rename_i q;simp only[Ga] at h1;subst h1;simp only[ev,den,q])
 |.frz s x,h=>by
  change axc e ρ x _=_ at h;rw[Jk] at h;split at h<;>try (cases h;done)
  rename_i s' z n q;rcases Jc h with ⟨h1,h2⟩|⟨_,h2⟩<;>try (cases h2;done)
  obtain⟨y,h3,h4⟩:=JbJ h2;obtain⟨A',h5,h6⟩:=Ja7 h4;refine⟨_,_,_,?_,h6⟩;simp only[ev,den,q];rw[GC (JD h1),h3];simp only[Option.bind_some,h5]
 |.load l n p,h=>by
  change axc e ρ p _=_ at h;rw[Jk] at h;cases l with
  |v s=>
   obtain⟨v,h1,h2⟩:=Jfa (ρ:=ρ) (A:=A) h;refine⟨v,μ,A,?_,h2⟩
   show (Jy (den ρ μ A) (.v s) n (argv (elR e) (elR ρ) p)).bind _=_
   rw[h1];rfl
  |e s=>
   change Je2 n s _ A _=_ at h;unfold Je2 at h;split at h<;>try (cases h;done)
   rename_i s' i off m q;rcases Jc h with ⟨h1,h2⟩|⟨_,h2⟩<;>try (cases h2;done)
   obtain⟨v,h3,h4⟩:=Je9 h2;refine⟨v,μ,A,?_,h4⟩
   show (Jy (den ρ μ A) (.e s) n (argv (elR e) (elR ρ) p)).bind _=_
   rw[q];have hs:=JD h1;subst hs
   show (if s'=s' then (match elG A s' with|some (_,rows,f)=>_|none=>none) else none).bind _=_
   rw[GC rfl,h3];rfl
  |c=>
   change ldC n _ _=_ at h;unfold ldC at h;split at h<;>try (cases h;done)
   rename_i cs off q;obtain⟨v,h3,h4⟩:=Jg h;rw[Jcv] at h3;refine⟨v,μ,A,?_,h4⟩
   show (Jy (den ρ μ A) .c n (argv (elR e) (elR ρ) p)).bind _=_
   rw[q]
   show (J6 cs off n).bind _=_
   rw[h3];rfl
  |x=>
   change ldX n _ A _=_ at h;unfold ldX at h;split at h<;>try (cases h;done)
   rename_i s' i off m q;obtain⟨v,h3,h4⟩:=Je9 h;refine⟨v,μ,A,?_,h4⟩
   show (Jy (den ρ μ A) .x n (argv (elR e) (elR ρ) p)).bind _=_
   rw[q]
   show (match elG A s' with|some (_,rows,f)=>_|none=>none:FO).bind _=_
   rw[h3];rfl
 |.store l n p x,h=>by
  change axc e ρ p _=_ at h;rw[Jk,Jk] at h;obtain⟨xs,h1,h2⟩:=Jg h;obtain⟨h3,h4⟩:=JdJ h2;have key:∀S',JC (den ρ μ A) l n (argv (elR e) (elR ρ) p) (argv (elR e) (elR ρ) x)=some S'→ev κ d (elR e) (den ρ μ A) (.store l n p x)=some (.undef,S'):=fun S' hh=>by
   show (JC (den ρ μ A) l n (argv (elR e) (elR ρ) p) (argv (elR e) (elR ρ) x)).bind _=_
   rw[hh];rfl
  unfold JC at key;rw[h1] at key;simp only[Option.bind_some] at key;rw[GC h3] at key;cases l with
  |v s=>
   change (match argv (elR e) (elR ρ) p with|.lref s' off=>_|_=>none)=_ at h4;split at h4<;>try (cases h4;done)
   rename_i s' off q;rcases Jc h4 with ⟨h5,h6⟩|⟨_,h6⟩<;>try (cases h6;done)
   rw[JF] at h6;cases qm:elG μ s with
   |none=>rw[qm] at h6;cases h6
   |some m=>
    obtain⟨cs,b⟩:=m;rw[qm] at h6;change bo b none _=_ at h6;rcases Jc h6 with ⟨_,h7⟩|⟨h8,h7⟩<;>try (cases h7;done)
    subst h8;obtain⟨cs',h9,h10⟩:=Jg h7;rw[Jp] at h10;refine⟨_,_,_,key _ ?_,h10⟩;rw[q];simp only[den,JD h5,GF,qm,JcB h9,Option.bind_some,JR]
  |e s=>
   change (match argv (elR e) (elR ρ) p with|.eref s' i off m=>_|_=>none)=_ at h4;split at h4<;>try (cases h4;done)
   rename_i s' i off m q;rcases Jc h4 with ⟨h5,h6⟩|⟨_,h6⟩<;>try (cases h6;done)
   obtain⟨A',h7,h8,h9⟩:=JfG (ρ:=ρ) (μ:=μ) h6;refine⟨_,_,_,key _ ?_,h9⟩;rw[q];have hs:=JD h5;subst hs;simp only;rw[GC ⟨Gm,h7⟩];exact h8
  |c=>cases h4
  |x=>
   change (match argv (elR e) (elR ρ) p with|.eref s' i off m=>_|_=>none)=_ at h4;split at h4<;>try (cases h4;done)
   rename_i s' i off m q;obtain⟨A',h7,h8,h9⟩:=JfG (ρ:=ρ) (μ:=μ) h4;refine⟨_,_,_,key _ ?_,h9⟩;rw[q];simp only;rw[GC h7];exact h8
 |.bin o x y,h=>by
  obtain⟨w,h1,h2⟩:=Jbs (κ:=κ) (d:=d) h;exact⟨w,μ,A,by simp only[ev,den,Jf2 h1,Option.bind_some],h2⟩
 |.eqa ne sh x y,h=>by
  obtain⟨w,h1,h2⟩:=Jbs (κ:=κ) (d:=d) h;refine⟨w,μ,A,?_,h2⟩;unfold JkM at h1;split at h1<;>try (cases h1;done)
  rename_i xs ys q1 q2;rw[Gb] at h1;obtain⟨b,h1,h3⟩:=h1;simp only[ev,den,q1,q2,h1,Option.bind_some];rw[Option.some.inj h3]
 |.eqb ne x y,h=>by
  obtain⟨w,h1,h2⟩:=Jbs (κ:=κ) (d:=d) h;refine⟨w,μ,A,?_,h2⟩;unfold JkN at h1;split at h1<;>try (cases h1;done)
  rename_i a b q1 q2;simp only[ev,den,q1,q2];rw[Option.some.inj h1]
 |.sh o x y,h=>by
  obtain⟨w,h1,h2⟩:=Jbs (κ:=κ) (d:=d) h;exact⟨w,μ,A,by simp only[ev,den,Jj0 h1,Option.bind_some],h2⟩
 |.mm mx x y,h=>by
  obtain⟨w,h1,h2⟩:=Jbs (κ:=κ) (d:=d) h;refine⟨w,μ,A,?_,h2⟩;unfold mmV at h1;split at h1<;>try (cases h1;done)
  rename_i k a k' b q1 q2;split at h1<;>try (cases h1;done)
  rename_i hk;simp only[ev,den,q1,q2];rw[GC hk,Option.some.inj h1]
 |.un o x,h=>by
  obtain⟨w,h1,h2⟩:=Jbc (κ:=κ) (d:=d) h;exact⟨w,μ,A,by simp only[ev,den,h1,Option.bind_some],h2⟩
 |.conv q x,h=>by
  obtain⟨w,h1,h2⟩:=Jbc (κ:=κ) (d:=d) h;exact⟨w,μ,A,by simp only[ev,den,JeI h1,Option.bind_some],h2⟩
 |.fn f cap sites,h=>by
  change (if sites.all (JL (elG μ)) then _ else none)=_ at h;split at h<;>try (cases h;done)
  rename_i hs;rw[Ja0] at h;obtain⟨cs,h1,h2⟩:=Jg h;obtain⟨μ',h3,h4⟩:=Jcu h2;refine⟨_,_,_,?_,h4⟩;simp only[ev,den];refine (GC hs).trans ?_;rw[h1];simp only[Option.bind_some,h3]
 |.sl st z x lo hi,h=>by
  change axc e ρ x _=_ at h;rw[Jk,JaH,JaH] at h;obtain⟨v,h1,h2⟩:=Jg h;exact⟨v,μ,A,by simp only[ev,den,Jdz h1,Option.bind_some],h2⟩
 |.fad x off,h=>by
  obtain⟨w,h1,h2⟩:=Jbc (κ:=κ) (d:=d) h;exact⟨w,μ,A,by simp only[ev,den,h1,Option.bind_some],h2⟩
 |.iad z x i,h=>by
  obtain⟨w,h1,h2⟩:=Jbs (κ:=κ) (d:=d) h;exact⟨w,μ,A,by simp only[ev,den,JgI h1,Option.bind_some],h2⟩
 |.iada z n x i,h=>by
  obtain⟨w,h1,h2⟩:=Jbs (κ:=κ) (d:=d) h;exact⟨w,μ,A,by simp only[ev,den,h1,Option.bind_some],h2⟩
 |.idx x i,h=>by
  obtain⟨w,h1,h2⟩:=Jbs (κ:=κ) (d:=d) h;exact⟨w,μ,A,by simp only[ev,den,JgK h1,Option.bind_some],h2⟩
 |.ext x i,h=>by
  obtain⟨w,h1,h2⟩:=Jbc (κ:=κ) (d:=d) h;exact⟨w,μ,A,by simp only[ev,den,Jgu h1,Option.bind_some],h2⟩
 |.len st x,h=>by
  obtain⟨w,h1,h2⟩:=Jbc (κ:=κ) (d:=d) h;exact⟨w,μ,A,by simp only[ev,den,JgO h1,Option.bind_some],h2⟩
 |.app s z x y,h=>by
  change axc e ρ x _=_ at h;rw[Jk,Jk] at h
  show ∃v μ' A',appN (den ρ μ A) s z (argv (elR e) (elR ρ) x) (argv (elR e) (elR ρ) y)=_∧_
  unfold appN;split at h
  ·rename_i z' q;rcases Jc h with ⟨h1,h2⟩|⟨_,h2⟩<;>try (cases h2;done)
   obtain⟨h3,h4⟩:=JV h2;obtain⟨ys,h5,h6⟩:=Jfy h4;obtain⟨h7,h8⟩:=JcT h6;rw[Jp,Jm] at h8;rw[Jm] at h7;refine⟨_,μ,_,?_,h8⟩;simp only[q,JD h1,GF,den,h3,h5,Option.bind_some];rw[GC h7];simp only[JR]
  ·rename_i hx;obtain⟨v,A',h1,h2⟩:=JeA (ρ:=ρ) (μ:=μ) h;refine⟨v,μ,A',?_,h2⟩;split
   ·rename_i z' q;exact absurd q (hx z')
   ·exact h1
 |.apf s z x y,h=>by
  change axc e ρ x _=_ at h;rw[Jk,Jk] at h;obtain⟨v,A1,h1,h2⟩:=JeA (ρ:=ρ) (μ:=μ) h;obtain⟨w,h3,h4⟩:=JbJ h2;obtain⟨A2,h5,h6⟩:=Ja7 h4;refine⟨w,μ,A2,?_,h6⟩
  show (J8 (den ρ μ A) s z (argv (elR e) (elR ρ) x) (argv (elR e) (elR ρ) y)).bind _=_
  rw[h1]
  show (toDC (elG A1) v).bind _=_
  rw[h3];simp only[Option.bind_some,den,h5]
 |.ins f s z x i y,h=>by
  change axc e ρ x _=_ at h;simp only[Jk] at h;split at h<;>try (cases h;done)
  rename_i s' z' n j z'' ys q1 q2 q3;split at h<;>try (cases h;done)
  rename_i hs;split at h<;>try (cases h;done)
  rename_i z3 rows q4;split at h<;>try (cases h;done)
  rename_i hc;rw[Jp] at h;refine⟨_,μ,_,?_,h⟩;simp only[ev,den,q1,q2,q3];rw[GC hs];simp only[q4];rw[GC hc];simp only[JR]
 |.del f s z x i j,h=>by
  change axc e ρ x _=_ at h;simp only[Jk] at h;split at h<;>try (cases h;done)
  rename_i s' z' n a m q1 q2 q3;split at h<;>try (cases h;done)
  rename_i hs;split at h<;>try (cases h;done)
  rename_i z3 rows q4 q5;split at h<;>try (cases h;done)
  rename_i hc;rw[Jp,Jp] at h;refine⟨_,μ,_,?_,h⟩;simp only[ev,den,q1,q2,q3];rw[GC hs];simp only[q4,q5];rw[GC hc];simp only[JR]
 |.call f cv own xs,h=>by
  have h:Jde f cv own xs κ d e ρ μ A c=some r:=h;unfold Jde at h;obtain⟨g,cap,h1,h2⟩:=Jif h;rw[Ja0] at h2;have hev:ev κ d (elR e) (den ρ μ A) (.call f cv own xs)=callV κ d (den ρ μ A) cv own (g,cap) (xs.map (argv (elR e) (elR ρ))):=by
   show (callee (elR e) (elR ρ) f).bind _=_
   rw[h1];rfl
  rw[hev];generalize xs.map (argv (elR e) (elR ρ))=vs at h2;cases cv with
  |no=>
   rcases Jc h2 with ⟨h3,h4⟩|⟨_,h4⟩<;>try (cases h4;done)
   obtain⟨x,h5,h6⟩:=Jg h4;rw[JaF] at h5;obtain⟨v,A',h7,h8⟩:=Jbi (ρ:=ρ) h6;refine⟨v,μ,A',?_,h8⟩;have h9:vs.all V.dat=true:=by rw[Jbj] at h3;rw[show V.dat=Jd5 from (funext Jcq).symm];exact h3
   simp only[callV,h9,GF,h5,Option.bind_some];exact h7
  |borrow=>
   obtain⟨bs,h3,h4⟩:=JdI h2;obtain⟨x,h5,h6⟩:=Jg h4;rw[JaF] at h5;rcases Jc h6 with ⟨h7,h8⟩|⟨_,h8⟩<;>try (cases h8;done)
   refine⟨x,μ,A,?_,h8⟩
   show (Js (toD (elG A)) vs).bind _=_
   rw[h3,Option.bind_some,h5,Option.bind_some,GC h7]
  |freeze=>
   obtain⟨bs,h3,h4⟩:=JdI h2;obtain⟨x,h5,h6⟩:=Jg h4;rw[JaF] at h5;obtain⟨A1,h7,h8⟩:=Jbz h6;obtain⟨v,A',h9,h10⟩:=Jbi (ρ:=ρ) h8;refine⟨v,μ,A',?_,h10⟩
   show (Js (toD (elG A)) vs).bind _=_
   rw[h3,Option.bind_some,h5,Option.bind_some,←h9];simp only[den,h7]
 |.nilc x,h=>by
  obtain⟨w,h1,h2⟩:=Jbc (κ:=κ) (d:=d) h;refine⟨w,μ,A,?_,h2⟩;unfold Jh0 at h1;split at h1<;>try (cases h1;done)
  all_goals (rename_i q;simp only[Ga] at h1;subst h1;simp only[ev,den,q])
 |.ldf s w n p,h=>by
  change axc e ρ p _=_ at h;rw[Jk] at h;obtain⟨x,h1,h2⟩:=Jfa (ρ:=ρ) (A:=A) h;split at h2<;>try (cases h2;done)
  rename_i hc;obtain⟨y,h3,h4⟩:=JhW h2;obtain⟨A',h5,h6⟩:=Ja7 h4;refine⟨y,μ,A',?_,h6⟩
  show (Jy (den ρ μ A) (.v w) (some n) (argv (elR e) (elR ρ) p)).bind _=_
  rw[h1,Option.bind_some,GC hc]
  show (toD (elG A) x).bind _=_
  rw[h3];simp only[Option.bind_some,den,h5]
 |.rcall f xs k s b,h=>by
  change Jdb e ρ xs _=_ at h;rw[Ja0] at h;obtain⟨p,h1,h2⟩:=Jg h;rw[JX] at h1;split at h2<;>try (cases h2;done)
  rename_i s';rcases Jc h2 with ⟨h3,h4⟩|⟨_,h4⟩<;>try (cases h4;done)
  rw[Jbe] at h4;obtain⟨bs,h5,h6⟩:=JdI h4;rw[JF] at h6;cases qm:elG μ s with
  |none=>rw[qm] at h6;cases h6
  |some m=>
   obtain⟨cs,fz⟩:=m;rw[qm] at h6;change bo fz none _=_ at h6;rcases Jc h6 with ⟨_,h7⟩|⟨h8,h7⟩<;>try (cases h7;done)
   subst h8;obtain⟨A1,h9,h10⟩:=Jbz h7;obtain⟨us,A2,h11,h12⟩:=Je3 h10;obtain⟨x,h13,h14⟩:=Jg h12;rw[Jbe] at h13;split at h14<;>try (cases h14;done)
   rename_i r0 ws;obtain⟨ts,A3,h15,h16⟩:=Jb2 h14;rw[Jp] at h16;refine⟨r0,_,A3,?_,h16⟩
   show (rcallA (den ρ μ A) k s (xs.map (argv (elR e) (elR ρ)))).bind _=_
   have hA:rcallA (den ρ μ A) k s (xs.map (argv (elR e) (elR ρ)))=some (bs.set k (.tuple (.lref 0 0::us)),elG A2):=by
    unfold rcallA;rw[h1];simp only;rw[GC (JD h3)]
    show (Js (toD (elG A)) _).bind _=_
    rw[h5,Option.bind_some];simp only[den,qm];rw[←h9,h11];rfl
   rw[hA,Option.bind_some]
   show (κ f _).bind _=_
   rw[h13,Option.bind_some];simp only[rcallE,h15,Option.bind_some,den,JR]
 |.allo z b,h=>by
  obtain⟨h1,h2⟩:=JV h;obtain⟨ts,A',h3,h4⟩:=Jb2 h2;rw[Jp] at h4;refine⟨_,_,_,?_,h4⟩;simp only[ev,den,h1,h3,Option.bind_some,JR]
 |.boxo x b,h=>by
  obtain⟨h1,h2⟩:=JV h;rw[Jk] at h2;split at h2<;>try (cases h2;done)
  rename_i cs q;rcases Jc h2 with ⟨h3,h4⟩|⟨_,h4⟩<;>try (cases h4;done)
  rw[Jbj] at h3;obtain⟨ts,A',h5,h6⟩:=Jb2 h4;rw[Jp] at h6;refine⟨_,_,_,?_,h6⟩;simp only[ev,den,h1,q,h3,GF,h5,Option.bind_some,JR]
 |.appd z x y,h=>by
  change axc e ρ x _=_ at h;rw[Jk,Jk] at h;split at h<;>try (cases h;done)
  rename_i s z' n q;rcases Jc h with ⟨h3,h4⟩|⟨_,h4⟩<;>try (cases h4;done)
  obtain⟨v,A',h5,h6⟩:=Jez (ρ:=ρ) (μ:=μ) h4;refine⟨v,μ,A',?_,h6⟩
  show appW (den ρ μ A) z (argv (elR e) (elR ρ) x) (argv (elR e) (elR ρ) y)=_
  rw[q]
  show J8 (den ρ μ A) s z (.own s z' n) _=_
  rw[JD h3];exact h5
 |.slf z x lo hi,h=>by
  change axc e ρ x _=_ at h;rw[Jk,JaH,JaH] at h;obtain⟨y,h1,h2⟩:=JbJ h;obtain⟨v,h3,h4⟩:=Jg h2;obtain⟨A',h5,h6⟩:=Jbz h4;refine⟨v,μ,A',?_,h6⟩
  show (toDC (elG A) (argv (elR e) (elR ρ) x)).bind _=_
  rw[h1,Option.bind_some]
  show (slV false z y (lo.map (argv (elR e) (elR ρ))) (hi.map (argv (elR e) (elR ρ)))).bind _=_
  rw[Jdz h3,Option.bind_some];simp only[den,h5]
 |.b2s x,h=>by
  change axc e ρ x _=_ at h;rw[Jk] at h;obtain⟨v,h1,h2⟩:=Jg h;refine⟨v,μ,A,?_,h2⟩;simp only[ev,den,h1,Option.bind_some]
 |.mkoz z s,h=>by
  have h:Jdf z s κ d e ρ μ A c=some r:=h;unfold Jdf at h;obtain⟨A1,h1,h2⟩:=Ja7 h;obtain⟨h3,h4⟩:=JV h2;rw[Jp] at h4;refine⟨_,μ,_,?_,h4⟩;simp only[ev,den];rw[←h1];simp only[h3,JR]
 |.slr s z x lo hi,h=>by
  change axc e ρ x _=_ at h;rw[Jk,JaH,JaH] at h;obtain⟨y,h1,h2⟩:=Jg h;obtain⟨v,h3,h4⟩:=Jg h2;refine⟨v,μ,A,?_,h4⟩
  show (frzD (elG A) s (argv (elR e) (elR ρ) x)).bind _=_
  rw[h1,Option.bind_some]
  show (slV false z y (lo.map (argv (elR e) (elR ρ))) (hi.map (argv (elR e) (elR ρ)))).bind _=_
  rw[Jdz h3];rfl
 |.fld x off n,h=>by
  obtain⟨w,h1,h2⟩:=Jbc (κ:=κ) (d:=d) h;refine⟨w,μ,A,?_,h2⟩;unfold Jld at h1;split at h1<;>try (cases h1;done)
  rename_i cs q;rw[Jcv] at h1;simp only[ev,den,q,h1,Option.bind_some]
 |.mif t x,h=>by
  change axc e ρ x _=_ at h;rw[Jk] at h;rcases Jc h with ⟨h3,h4⟩|⟨_,h4⟩<;>try (cases h4;done)
  rw[Jcq] at h3;refine⟨_,μ,A,?_,h4⟩;simp only[ev,den,h3,GF]
 |.asr t z x,h=>by
  obtain⟨w,h1,h2⟩:=Jbc (κ:=κ) (d:=d) h;refine⟨w,μ,A,?_,h2⟩;unfold Jkv at h1;split at h1<;>try (cases h1;done)
  ·rename_i t' v' q;simp only[ev,den,q];split at h1
   ·rename_i ht;rw[GC ht,←Option.some.inj h1];cases z<;>rfl
   ·rename_i ht;rw[GA ht];cases z with
    |none=>cases h1
    |some z=>simp only[Option.bind_some,Ga] at h1 ⊢;rw[h1]
  ·rename_i q;simp only[ev,den,q];cases z with
   |none=>cases h1
   |some z=>simp only[Option.bind_some,Ga] at h1 ⊢;rw[h1]
 |.inv l x xs,h=>by
  change axc e ρ x _=_ at h;rw[Jk,Ja0] at h;split at h<;>try (cases h;done)
  rename_i t v q;rcases Jc h with ⟨h3,h4⟩|⟨_,h4⟩<;>try (cases h4;done)
  rw[Jbj,show Jd5=V.dat from funext Jcq] at h3;obtain⟨f,h5,h6⟩:=Jg h4;obtain⟨x',h7,h8⟩:=Jg h6;refine⟨x',μ,A,?_,h8⟩;simp only[ev,den,q];refine (GC h3).trans ?_;rw[h5,Option.bind_some,h7];rfl
 |.bad,h=>by cases h
abbrev SC:Type:=EL V→ML→AL→FO
def Jjr (cl:List Nat) (gl:Bool) (dst:Option Nat) (v:V) (ρ:EL V) (c:EL V→FO):FO:=@Bool.rec (fun _=>FO) (c ρ) (@Option.rec _ (fun _=>FO) (c ρ) (fun d=>bo (inL cl d) (JN d v ρ c) (c (.c d v ρ))) dst) gl
theorem JdT {cl:List Nat} {dst:Option Nat} {gl:Bool} {k:K} {gd:Option (Nat×Bool)} {v:V} {ρ:EL V} {μ:ML} {A:AL} {c:EL V→FO} {r:V} (h:Jjr cl gl dst v ρ c=some r) :
  ∃ρ',(den ρ μ A).put ⟨dst,gl,k,gd⟩ v=den ρ' μ A∧c ρ'=some r:=by
 cases gl with
 |false=>exact⟨ρ,by cases dst<;>rfl,h⟩
 |true=>
  cases dst with
  |none=>exact⟨ρ,rfl,h⟩
  |some d=>
   change bo (inL cl d) (JN d v ρ c) (c (.c d v ρ))=some r at h
   cases q:inL cl d with
   |true=>
    rw[q] at h
    change JN d v ρ c=some r at h
    rw[Jp] at h
    exact⟨_,by simp only[St.put,den,JhY],h⟩
   |false=>rw[q] at h;exact⟨_,by simp only[St.put,den,Jbp],h⟩
def Jkg (b:Bool) (no yes:FO) (v:V):FO:=match v with
 |.bool t=>bo b (bo t yes no) (bo t no yes)
 |.tuple []=>no
 |_=>none
def Jl4 (e:EL V) (gd:Option (Nat×Bool)) (no yes:FO):FO:=@Option.rec _ (fun _=>FO) yes (fun g=>@Prod.rec _ _ (fun _=>FO) (fun j b=>Jd7 (Jkg b no yes) j e) g) gd
theorem JhP {e:EL V} {gd:Option (Nat×Bool)} {no yes:FO} {r:V} (h:Jl4 e gd no yes=some r):(Jq (elR e) gd=some true∧yes=some r)∨(Jq (elR e) gd=some false∧no=some r):=by
 cases gd with
 |none=>exact .inl ⟨rfl,h⟩
 |some g=>
  obtain⟨j,b⟩:=g;change Jd7 (Jkg b no yes) j e=some r at h;rw[Jby] at h;unfold Jkg at h;split at h
  ·rename_i t q;simp only[Jq,q];cases b<;>cases t<;>first|exact .inl ⟨rfl,h⟩|exact .inr ⟨rfl,h⟩
  ·rename_i q;exact .inr ⟨by simp only[Jq,q],h⟩
  ·cases h
def JfH (κ:Nat→List V→FO) (cl:List Nat) (o:Op) (e ρ:EL V) (μ:ML) (A:AL) (c:V→SC):FO:=@Op.rec (fun _=>FO) (fun dst gl k gd=>
 Jl4 e gd (Jjr cl gl dst .un ρ fun ρ'=>c .un ρ' μ A) (fev k κ (@Option.rec _ (fun _=>Nat) 0 (fun d=>d) dst) e ρ μ A fun v μ' A'=>Jjr cl gl dst v ρ fun ρ'=>c v ρ' μ' A')) o
theorem JfI {κ:Nat→List V→FO} {cl:List Nat} {o:Op} {e ρ:EL V} {μ:ML} {A:AL} {c:V→SC} {r:V} (h:JfH κ cl o e ρ μ A c=some r) :
  ∃v ρ' μ' A',step κ o (elR e) (den ρ μ A)=some (v,den ρ' μ' A')∧c v ρ' μ' A'=some r:=by
 obtain⟨dst,gl,k,gd⟩:=o
 rcases JhP h with ⟨h1,h2⟩|⟨h1,h2⟩
 ·obtain⟨v,μ',A',h3,h4⟩:=JiK h2
  obtain⟨ρ',h5,h6⟩:=JdT (k:=k) (gd:=gd) (μ:=μ') (A:=A') h4
  refine⟨v,ρ',μ',A',?_,h6⟩
  unfold step
  simp only[h1]
  rw[show dst.getD 0=@Option.rec _ (fun _=>Nat) 0 (fun d=>d) dst by cases dst<;>rfl,h3,Option.bind_some,h5]
 ·obtain⟨ρ',h5,h6⟩:=JdT (k:=k) (gd:=gd) (μ:=μ) (A:=A) h2
  refine⟨_,ρ',μ,A,?_,h6⟩
  unfold step
  simp only[h1]
  rw[h5]
def Jjn (κ:Nat→List V→FO) (cl:List Nat) (ops:List Op):Nat→EL V→EL V→ML→AL→SC→FO:=
 @List.rec Op (fun _=>Nat→EL V→EL V→ML→AL→SC→FO) (fun _ _ ρ μ A c=>c ρ μ A) (fun o _ ih i e ρ μ A c=>JfH κ cl o e ρ μ A fun v ρ' μ' A'=>ih (Nat.succ i) (.c i v e) ρ' μ' A' c) ops
theorem JdQ {κ:Nat→List V→FO} {cl:List Nat}:∀{ops:List Op} {i:Nat} {e ρ:EL V} {μ:ML} {A:AL} {c:SC} {r:V},Jjn κ cl ops i e ρ μ A c=some r→
  ∃ρ' μ' A',Jz κ ops i (elR e) (den ρ μ A)=some (den ρ' μ' A')∧c ρ' μ' A'=some r
 |[],i,e,ρ,μ,A,c,r,h=>⟨ρ,μ,A,rfl,h⟩
 |o::os,i,e,ρ,μ,A,c,r,h=>by
  change JfH κ cl o e ρ μ A (fun v ρ' μ' A'=>Jjn κ cl os (i+1) (.c i v e) ρ' μ' A' c)=some r at h;obtain⟨v,ρ1,μ1,A1,h1,h2⟩:=JfI h;obtain⟨ρ2,μ2,A2,h3,h4⟩:=JdQ h2;refine⟨ρ2,μ2,A2,?_,h4⟩
  show (step κ o (elR e) (den ρ μ A)).bind _=_
  rw[h1,Option.bind_some];rw[Jbp] at h3;exact h3
theorem Je1 (x h t:Nat):swp x h (swp x h t)=t:=by
 unfold swp;by_cases h1:t=x
 ·subst h1;rw[GC rfl];split
  ·rename_i q;exact q
  ·rw[GC rfl]
 ·rw[GA h1];by_cases h2:t=h
  ·rw[GC h2,GC rfl];exact h2.symm
  ·rw[GA h2,GA h1,GA h2]
def JcF (L:List Nat) (n:Nat):EL V→ML→AL→SC→FO:=@Nat.rec (fun _=>List Nat→EL V→ML→AL→SC→FO) (fun _ ρ μ A c=>c ρ μ A) (fun _ ih L ρ μ A c=>match L with
 |s::j::h::l=>JaM (ih l ρ μ A c) (fun m=>match Jak m.1 j with
  |some (V.own x _ _)=>bo (Nat.beq x h) (ih l ρ μ A c) (ih l (elM (Jah x h) ρ) (elM (fun m=>(m.1.map (JP x h),m.2)) μ) (elK (swp x h) A) c)
  |_=>ih l ρ μ A c) s μ
 |_=>c ρ μ A) n L
theorem Jgp (ρ:EL V) (μ:ML) (A:AL) (x h:Nat):den (elM (Jah x h) ρ) (elM (fun m=>(m.1.map (JP x h),m.2)) μ) (elK (swp x h) A)=(den ρ μ A).ren x h:=by
 unfold den St.ren
 congr 1
 ·funext t;exact JeQ _ rfl _ _
 ·funext t;exact JeP (fun m:List V×Bool=>(m.1.map (JP x h),m.2)) μ t
 ·funext t;exact JhX _ (Je1 x h) _ _
theorem Jb1 (x t:Nat):swp x x t=t:=by
 unfold swp;split
 ·rename_i q;exact q.symm
 ·rfl
theorem Jfw (S:St) (x:Nat):S.ren x x=S:=by
 have hC:∀v,JP x x v=v:=fun v=>by
  unfold JP;split
  ·rw[Jb1]
  ·rfl
 have hM:∀l:List V,l.map (JP x x)=l:=fun l=>by rw[show JP x x=id from funext hC,List.map_id]
 have hV:∀v,Jah x x v=v:=fun v=>by
  unfold Jah;split<;>first|rw[Jb1]|rw[hM]|rfl
 unfold St.ren
 congr 1
 ·funext t;exact hV _
 ·funext t
  show (S.μ t).map _=S.μ t
  cases S.μ t with
  |none=>rfl
  |some m=>simp only[Option.map_some,hM]
 ·funext t;rw[Jb1]
theorem JdY:∀{n:Nat} {L:List Nat} {ρ:EL V} {μ:ML} {A:AL} {c:SC} {r:V},L.length≤3*n→L.length % 3=0→JcF L n ρ μ A c=some r→∃ρ' μ' A',(den ρ μ A).swps L=den ρ' μ' A'∧c ρ' μ' A'=some r
 |0,L,ρ,μ,A,c,r,hl,_,h=>by
  have:L=[]:=GD (by omega);subst this;exact⟨ρ,μ,A,rfl,h⟩
 |n+1,[],ρ,μ,A,c,r,_,_,h=>⟨ρ,μ,A,rfl,h⟩
 |n+1,[_],ρ,μ,A,c,r,_,_,h=>⟨ρ,μ,A,rfl,h⟩
 |n+1,[_,_],ρ,μ,A,c,r,_,_,h=>⟨ρ,μ,A,rfl,h⟩
 |n+1,s::j::t::l,ρ,μ,A,c,r,hl,hm,h=>by
  simp only[List.length_cons] at hl hm;have ih:=fun {ρ μ A} h=>JdY (n:=n) (L:=l) (ρ:=ρ) (μ:=μ) (A:=A) (c:=c) (r:=r) (by omega) (by omega) h;change JaM (JcF l n ρ μ A c) (fun m=>match Jak m.1 j with
   |some (V.own x _ _)=>bo (Nat.beq x t) (JcF l n ρ μ A c) (JcF l n (elM (Jah x t) ρ) (elM (fun m=>(m.1.map (JP x t),m.2)) μ) (elK (swp x t) A) c)
   |_=>JcF l n ρ μ A c) s μ=some r at h
  rw[JF] at h
  show ∃ρ' μ' A',((den ρ μ A).swp1 s j t).swps l=_∧_
  cases q:elG μ s with
  |none=>
   rw[q] at h;rw[show (den ρ μ A).swp1 s j t=den ρ μ A by unfold St.swp1;simp only[den,q]];exact ih h
  |some m=>
   obtain⟨cs,b⟩:=m;rw[q] at h;change (match Jak cs j with
    |some (V.own x _ _)=>bo (Nat.beq x t) (JcF l n ρ μ A c) (JcF l n (elM (Jah x t) ρ) (elM (fun m=>(m.1.map (JP x t),m.2)) μ) (elK (swp x t) A) c)
    |_=>JcF l n ρ μ A c)=some r at h
   rw[JX] at h;split at h
   ·rename_i x _ _ qx;rw[show (den ρ μ A).swp1 s j t=(den ρ μ A).ren x t by unfold St.swp1;simp only[den,q,qx]];rcases Jc h with ⟨h1,h2⟩|⟨_,h2⟩
    ·rw[JD h1,Jfw];exact ih h2
    ·rw[←Jgp];exact ih h2
   ·rename_i hx;have:(den ρ μ A).swp1 s j t=den ρ μ A:=by
     unfold St.swp1;simp only[den,q]
     try split<;>first|rfl|(rename_i x a b qx;exact absurd qx (hx x a b))
    rw[this];exact ih h
def JjZ (Wv Wa:List Nat) (ρ:EL V) (μ:ML) (A:AL) (c:SC):FO:=bo (Wv.isEmpty&&Wa.isEmpty) (c ρ μ A) (c (elM (Jo Wv Wa) ρ) (elM (fun m=>(m.1.map (JA Wa),m.2)) (elF (inL Wv) μ)) (elF (inL Wa) A))
theorem Jdt (v:V):Jo [] [] v=v:=by cases v<;>simp[Jo]
theorem JcR (S:St):S.scrub [] [] []=S:=by
 unfold St.scrub
 congr 1
 ·funext t;exact Jdt _
 ·funext t
  show (S.μ t).map _=S.μ t
  cases S.μ t<;>rfl
theorem Jfd (l:List V):l.map (JA [])=l:=by
 have:JA []=id:=funext fun v=>by cases v<;>simp[JA]
 rw[this,List.map_id]
theorem JdV {Wv Wa:List Nat} {ρ:EL V} {μ:ML} {A:AL} {c:SC} {r:V} (h:JjZ Wv Wa ρ μ A c=some r):∃ρ' μ' A',(den ρ μ A).scrub [] Wv Wa=den ρ' μ' A'∧c ρ' μ' A'=some r:=by
 rcases Jc h with ⟨h1,h2⟩|⟨_,h2⟩
 ·rw[Gi,List.isEmpty_iff,List.isEmpty_iff] at h1;rw[h1.1,h1.2,JcR];exact⟨ρ,μ,A,rfl,h2⟩
 ·refine⟨_,_,_,?_,h2⟩;unfold den St.scrub
  congr 1
  ·funext t
   rw[JeQ _ rfl];rfl
  ·funext t
   rw[JeP,JcK,Jdl]
   show (if Wv.contains t then none else (elG μ t).map _)=_
   split
   ·rfl
   ·cases q:Wa.isEmpty with
    |false=>rfl
    |true=>
     rw[List.isEmpty_iff] at q;subst q;cases elG μ t with
     |none=>rfl
     |some m=>simp only[Option.map_some,cond_true,Jfd]
  ·funext t
   rw[JcK,Jdl]
def hdF (W L Wv Wa:List Nat) (ρ:EL V) (μ:ML) (A:AL) (c:SC):FO:=@List.rec Nat (fun _=>FO) (@List.rec Nat (fun _=>FO) (JjZ Wv Wa ρ μ A c)
 (fun _ _ _=>bo (Nat.beq (Nat.mod (Jt L) 3) 0) (JcF L (Jt L) ρ μ A fun ρ' μ' A'=>JjZ Wv Wa ρ' μ' A' c) none) L) (fun _ _ _=>none) W
theorem JiO {W L Wv Wa:List Nat} {ρ:EL V} {μ:ML} {A:AL} {c:SC} {r:V} (h:hdF W L Wv Wa ρ μ A c=some r):∃ρ' μ' A',(den ρ μ A).head W L Wv Wa=den ρ' μ' A'∧c ρ' μ' A'=some r:=by
 cases W with
 |cons a W=>cases h
 |nil=>
  unfold St.head;cases L with
  |nil=>exact JdV h
  |cons a L=>
   change bo (Nat.beq (Nat.mod (Jt (a::L)) 3) 0) _ none=some r at h;rcases Jc h with ⟨h1,h2⟩|⟨_,h2⟩<;>try (cases h2;done)
   rw[Jm] at h1 h2;obtain⟨ρ1,μ1,A1,h3,h4⟩:=JdY (by omega) (JD h1) h2;rw[h3];exact JdV h4
def exF (κ:Nat→List V→FO) (cl:List Nat) (n:Nat) (c:C):EL V→ML→AL→SC→SC→(Nat→SC)→FO:=@C.rec (fun _=>EL V→ML→AL→SC→SC→(Nat→SC)→FO)
 (fun ρ μ A kn _ _=>kn ρ μ A)
 (fun _ ops ρ μ A kn _ _=>Jjn κ cl ops 0 .n ρ μ A kn)
 (fun _ _ ia ib ρ μ A kn kr kx=>ia ρ μ A (fun ρ' μ' A'=>ib ρ' μ' A' kn kr kx) kr kx)
 (fun x _ _ ia ib ρ μ A kn kr kx=>axc .n ρ x fun v=>match v with
  |.bool t=>bo t (ia ρ μ A kn kr kx) (ib ρ μ A kn kr kx)
  |_=>none)
 (fun id _ ia ρ μ A kn kr kx=>ia ρ μ A kn kr fun id' ρ' μ' A'=>bo (Nat.beq id' id) (kn ρ' μ' A') (kx id' ρ' μ' A'))
 (fun W L Wv Wa _ ia ρ μ A kn kr kx=>@Nat.rec (fun _=>EL V→ML→AL→FO) (fun _ _ _=>none) (fun _ ih ρ μ A=>hdF W L Wv Wa ρ μ A fun ρ' μ' A'=>ia ρ' μ' A' ih kr kx) n ρ μ A)
 (fun id ρ μ A _ _ kx=>kx id ρ μ A)
 (fun ρ μ A _ kr _=>kr ρ μ A) c
def Jh4 (kn kr:SC) (kx:Nat→SC) (ex:Ex) (ρ:EL V) (μ:ML) (A:AL):FO:=match ex with
 |.norm=>kn ρ μ A
 |.ret=>kr ρ μ A
 |.exit id=>kx id ρ μ A
theorem Jaz {κ:Nat→List V→FO} {cl:List Nat} {n:Nat}:∀(c:C) {ρ:EL V} {μ:ML} {A:AL} {kn kr:SC} {kx:Nat→SC} {r:V},exF κ cl n c ρ μ A kn kr kx=some r→
  ∃m ex ρ' μ' A',Je κ m c (den ρ μ A)=some (ex,den ρ' μ' A')∧Jh4 kn kr kx ex ρ' μ' A'=some r
 |.skip,ρ,μ,A,kn,kr,kx,r,h=>⟨1,.norm,ρ,μ,A,rfl,h⟩
 |.region b ops,ρ,μ,A,kn,kr,kx,r,h=>by
  obtain⟨ρ',μ',A',h1,h2⟩:=JdQ h;refine⟨1,.norm,ρ',μ',A',?_,h2⟩
  show (Jz κ ops 0 (fun _=>.undef) (den ρ μ A)).bind _=_
  rw[show (fun _=>V.undef)=elR (.n:EL V) from rfl,h1];rfl
 |.seq a b,ρ,μ,A,kn,kr,kx,r,h=>by
  obtain⟨m1,ex,ρ1,μ1,A1,h1,h2⟩:=Jaz a h;cases ex with
  |norm=>
   obtain⟨m2,ex2,ρ2,μ2,A2,h3,h4⟩:=Jaz b h2;refine⟨max m1 m2+1,ex2,ρ2,μ2,A2,?_,h4⟩
   show (Je κ (max m1 m2) a (den ρ μ A)).bind _=_
   rw[Jn (Le.refl κ) (G6 m1 m2) h1,Option.bind_some];exact Jn (Le.refl κ) (G3 m1 m2) h3
  |ret=>exact⟨m1+1,.ret,ρ1,μ1,A1,by show (Je κ m1 a (den ρ μ A)).bind _=_;rw[h1];rfl,h2⟩
  |exit id=>exact⟨m1+1,.exit id,ρ1,μ1,A1,by show (Je κ m1 a (den ρ μ A)).bind _=_;rw[h1];rfl,h2⟩
 |.cond x a b,ρ,μ,A,kn,kr,kx,r,h=>by
  change axc .n ρ x (fun v=>match v with
   |.bool t=>bo t (exF κ cl n a ρ μ A kn kr kx) (exF κ cl n b ρ μ A kn kr kx)
   |_=>none)=some r at h
  rw[Jk] at h;split at h<;>try (cases h;done)
  rename_i t q;rcases Jc h with ⟨h1,h2⟩|⟨h1,h2⟩
  ·obtain⟨m,ex,ρ1,μ1,A1,h3,h4⟩:=Jaz a h2;refine⟨m+1,ex,ρ1,μ1,A1,?_,h4⟩;simp only[Je,den];rw[show argv (fun _=>V.undef) (elR ρ) x=_ from q,h1];exact h3
  ·obtain⟨m,ex,ρ1,μ1,A1,h3,h4⟩:=Jaz b h2;refine⟨m+1,ex,ρ1,μ1,A1,?_,h4⟩;simp only[Je,den];rw[show argv (fun _=>V.undef) (elR ρ) x=_ from q,h1];exact h3
 |.block id c,ρ,μ,A,kn,kr,kx,r,h=>by
  obtain⟨m,ex,ρ1,μ1,A1,h1,h2⟩:=Jaz c h;cases ex with
  |norm=>exact⟨m+1,.norm,ρ1,μ1,A1,by show (Je κ m c (den ρ μ A)).bind _=_;rw[h1];rfl,h2⟩
  |ret=>exact⟨m+1,.ret,ρ1,μ1,A1,by show (Je κ m c (den ρ μ A)).bind _=_;rw[h1];rfl,h2⟩
  |exit id'=>
   change bo (Nat.beq id' id) (kn ρ1 μ1 A1) (kx id' ρ1 μ1 A1)=some r at h2;by_cases q:id'=id
   ·subst q;rw[Nat.beq_refl] at h2;refine⟨m+1,.norm,ρ1,μ1,A1,?_,h2⟩
    show (Je κ m c (den ρ μ A)).bind _=_
    rw[h1,Option.bind_some];exact GC rfl
   ·rw[Jb4 q] at h2;refine⟨m+1,.exit id',ρ1,μ1,A1,?_,h2⟩
    show (Je κ m c (den ρ μ A)).bind _=_
    rw[h1,Option.bind_some];exact GA q
 |.loop W L Wv Wa c,ρ,μ,A,kn,kr,kx,r,h=>by
  have key:∀(n':Nat) {ρ μ A},@Nat.rec (fun _=>EL V→ML→AL→FO) (fun _ _ _=>none) (fun _ ih ρ μ A=>hdF W L Wv Wa ρ μ A fun ρ' μ' A'=>exF κ cl n c ρ' μ' A' ih kr kx) n' ρ μ A=some r→
    ∃m ex ρ' μ' A',Je κ m (.loop W L Wv Wa c) (den ρ μ A)=some (ex,den ρ' μ' A')∧Jh4 kn kr kx ex ρ' μ' A'=some r:=by
   intro n'
   induction n' with
   |zero=>intro ρ μ A h;cases h
   |succ n' ih=>
    intro ρ μ A h
    obtain⟨ρ0,μ0,A0,h1,h2⟩:=JiO h
    obtain⟨m1,ex,ρ1,μ1,A1,h3,h4⟩:=Jaz c h2
    cases ex with
    |norm=>
     obtain⟨m2,ex2,ρ2,μ2,A2,h5,h6⟩:=ih h4
     refine⟨max m1 m2+1,ex2,ρ2,μ2,A2,?_,h6⟩
     show (Je κ (max m1 m2) c ((den ρ μ A).head W L Wv Wa)).bind _=_
     rw[h1,Jn (Le.refl κ) (G6 m1 m2) h3,Option.bind_some]
     exact Jn (Le.refl κ) (G3 m1 m2) h5
    |ret=>exact⟨m1+1,.ret,ρ1,μ1,A1,by show (Je κ m1 c ((den ρ μ A).head W L Wv Wa)).bind _=_;rw[h1,h3];rfl,h4⟩
    |exit id=>exact⟨m1+1,.exit id,ρ1,μ1,A1,by show (Je κ m1 c ((den ρ μ A).head W L Wv Wa)).bind _=_;rw[h1,h3];rfl,h4⟩
  exact key n h
 |.exit id,ρ,μ,A,kn,kr,kx,r,h=>⟨1,.exit id,ρ,μ,A,rfl,h⟩
 |.ret,ρ,μ,A,kn,kr,kx,r,h=>⟨1,.ret,ρ,μ,A,rfl,h⟩
def clsO (ops:List Op):List Nat:=@List.rec Op (fun _=>List Nat) [] (fun o _ ih=>bo o.gl (@Option.rec Nat (fun _=>List Nat) ih (fun d=>d::ih) o.dst) ih) ops
def JkA (c:C):Bool→List Nat:=@C.rec (fun _=>Bool→List Nat) (fun _=>[]) (fun _ ops b=>bo b (clsO ops) []) (fun _ _ ia ib b=>JbF (ia b) (ib b)) (fun _ _ _ ia ib b=>JbF (ia b) (ib b)) (fun _ _ ia b=>ia b) (fun _ _ _ _ _ ia _=>ia true) (fun _ _=>[]) (fun _=>[]) c
def natN (n:Nat) (k:Nat→FO):FO:=@Nat.rec (fun _=>FO) (k 0) (fun m _=>k (Nat.succ m)) n
theorem JW (n:Nat) (k:Nat→FO):natN n k=k n:=by cases n<;>rfl
def Jlm (n:Int) (k:Int→FO):FO:=@Int.rec (fun _=>FO) (fun m=>natN m fun m=>k (Int.ofNat m)) (fun m=>natN m fun m=>k (Int.negSucc m)) n
theorem JgM (n:Int) (k:Int→FO):Jlm n k=k n:=by
 cases n with
 |ofNat m=>exact JW m (fun m=>k (Int.ofNat m))
 |negSucc m=>exact JW m (fun m=>k (Int.negSucc m))
def Jj2 (s:List UInt8):(List UInt8→FO)→FO:=@List.rec UInt8 (fun _=>(List UInt8→FO)→FO) (fun k=>k []) (fun b _ ih k=>natN b.toNat fun m=>ih fun t=>k (UInt8.ofNat m::t)) s
theorem JdW:∀(s:List UInt8) (k:List UInt8→FO),Jj2 s k=k s
 |[],k=>rfl
 |b::s,k=>by
  show natN b.toNat (fun m=>Jj2 s fun t=>k (UInt8.ofNat m::t))=_
  rw[JW,JdW s,UInt8.ofNat_toNat]
abbrev Jab:Type:=(V→FO)→FO
abbrev NL:Type:=(List V→FO)→FO
abbrev NR:Type:=(List (List V)→FO)→FO
def nvU:Jab:=fun k=>k .undef
def nvB (b:Bool):Jab:=fun k=>@Bool.rec (fun _=>FO) (k (.bool false)) (k (.bool true)) b
def nvI (i:IntKind) (n:Int):Jab:=fun k=>Jlm n fun n=>k (.int i n)
def nvS (s:List UInt8):Jab:=fun k=>Jj2 s fun s=>k (.str s)
def nvA (_:List V) (ih:NL):Jab:=fun k=>ih fun l=>k (.agg l)
def nvZ (z:Nat) (_:List (List V)) (ih:NR):Jab:=fun k=>natN z fun z=>ih fun l=>k (.slice z l)
def nvT (_:List V) (ih:NL):Jab:=fun k=>ih fun l=>k (.tuple l)
def nvF (f:Nat) (_:List V) (ih:NL):Jab:=fun k=>natN f fun f=>ih fun l=>k (.func f l)
def nvP (_:List V) (o:Nat) (ih:NL):Jab:=fun k=>natN o fun o=>ih fun l=>k (.cptr l o)
def nvL (s o:Nat):Jab:=fun k=>natN s fun s=>natN o fun o=>k (.lref s o)
def nvE (s i o n:Nat):Jab:=fun k=>k (.eref s i o n)
def nvO (s z n:Nat):Jab:=fun k=>k (.own s z n)
def nvX (t:Nat) (_:V) (ih:Jab):Jab:=fun k=>natN t fun t=>ih fun v=>k (.iface t v)
def nvN:Jab:=fun k=>k .niface
def nvK (z:Nat):Jab:=fun k=>natN z fun z=>k (.nslice z)
def nvY (z:Nat) (_:List (List V)) (ih:NR):Jab:=fun k=>natN z fun z=>ih fun l=>k (.xslice z l)
def nvn:NL:=fun k=>k []
def nvc (_:V) (_:List V) (ia:Jab) (ib:NL):NL:=fun k=>ia fun a=>ib fun l=>k (a::l)
def nvm:NR:=fun k=>k []
def nvd (_:List V) (_:List (List V)) (ia:NL) (ib:NR):NR:=fun k=>ia fun a=>ib fun l=>k (a::l)
def JfN (v:V):Jab:=@V.rec (fun _=>Jab) (fun _=>NL) (fun _=>NR) nvU nvB nvI nvS nvA nvZ nvT nvF nvP nvL nvE nvO nvX nvN nvK nvY nvn nvc nvm nvd v
def JhM (v:List V):NL:=@V.rec_1 (fun _=>Jab) (fun _=>NL) (fun _=>NR) nvU nvB nvI nvS nvA nvZ nvT nvF nvP nvL nvE nvO nvX nvN nvK nvY nvn nvc nvm nvd v
def JhN (v:List (List V)):NR:=@V.rec_2 (fun _=>Jab) (fun _=>NL) (fun _=>NR) nvU nvB nvI nvS nvA nvZ nvT nvF nvP nvL nvE nvO nvX nvN nvK nvY nvn nvc nvm nvd v
theorem JhO (v:V):∀k,JfN v k=k v:=@V.rec (fun v=>∀k,JfN v k=k v) (fun l=>∀k,JhM l k=k l) (fun l=>∀k,JhN l k=k l)
 (fun k=>rfl) (fun b k=>by cases b<;>rfl) (fun i n k=>JgM n fun n=>k (.int i n)) (fun s k=>JdW s fun s=>k (.str s))
 (fun l ih k=>ih fun l=>k (.agg l)) (fun z l ih k=>(JW z fun z=>JhN l fun l=>k (.slice z l)).trans (ih fun l=>k (.slice z l))) (fun l ih k=>ih fun l=>k (.tuple l))
 (fun f l ih k=>(JW f fun f=>JhM l fun l=>k (.func f l)).trans (ih fun l=>k (.func f l))) (fun l o ih k=>(JW o fun o=>JhM l fun l=>k (.cptr l o)).trans (ih fun l=>k (.cptr l o)))
 (fun s o k=>(JW s fun s=>natN o fun o=>k (.lref s o)).trans (JW o fun o=>k (.lref s o))) (fun s i o n k=>rfl) (fun s z n k=>rfl)
 (fun t v ih k=>(JW t fun t=>JfN v fun v=>k (.iface t v)).trans (ih fun v=>k (.iface t v))) (fun k=>rfl) (fun z k=>JW z fun z=>k (.nslice z))
 (fun z l ih k=>(JW z fun z=>JhN l fun l=>k (.xslice z l)).trans (ih fun l=>k (.xslice z l)))
 (fun k=>rfl) (fun a l ia ib k=>(ia fun a=>JhM l fun l=>k (a::l)).trans (ib fun l=>k (a::l))) (fun k=>rfl) (fun a l ia ib k=>(ia fun a=>JhN l fun l=>k (a::l)).trans (ib fun l=>k (a::l))) v
def Jc7 (l:List V):(List V→FO)→FO:=@List.rec V (fun _=>(List V→FO)→FO) (fun k=>k []) (fun v _ ih k=>JfN v fun v=>ih fun t=>k (v::t)) l
theorem Jc8:∀(l:List V) (k:List V→FO),Jc7 l k=k l
 |[],k=>rfl
 |v::l,k=>by
  show JfN v (fun v=>Jc7 l fun t=>k (v::t))=_
  rw[JhO,Jc8 l]
structure Ft where
 f:Nat
 x:Fn
 rk:Option Nat
inductive FTr where
 |leaf
 |node (a:Ft) (cl:List Nat) (l r:FTr)
def JkB (x:Fn):List Nat:=@Fn.rec (fun _=>List Nat) (fun F=>JkA F.body false) (fun _ _=>[]) (fun F _=>JkA F.body false) x
def trG (t:FTr) (f:Nat) (c:Fn→Option Nat→List Nat→FO):FO:=@FTr.rec (fun _=>FO) none (fun a cl _ _ il ir=>@Ft.rec (fun _=>FO) (fun g x m=>bo (Nat.beq f g) (c x m cl) (bo (Nat.blt f g) il ir)) a) t
def trN (a:List Ft) (f g:List Ft→FTr) (l:List Ft):FTr:=@List.rec Ft (fun _=>FTr) .leaf (fun x r _=>.node x (JkB x.x) (f a) (g r)) l
def JaV (n:Nat):List Ft→FTr:=@Nat.rec (fun _=>List Ft→FTr) (fun _=>.leaf) (fun _ ih l=>trN (JcG l (Nat.div (Jt l) 2)) ih ih (Jcr l (Nat.div (Jt l) 2))) n
theorem JbB {f:Nat} {c:Fn→Option Nat→List Nat→FO} {r:V}:∀(n:Nat) (l:List Ft),trG (JaV n l) f c=some r→∃a cl,a∈l∧a.f=f∧c a.x a.rk cl=some r
 |0,l,h=>by cases h
 |n+1,l,h=>by
  change trG (trN (JcG l (Nat.div (Jt l) 2)) (JaV n) (JaV n) (Jcr l (Nat.div (Jt l) 2))) f c=some r at h;rw[Jbg,Ja5] at h;have hm:∀y,y∈l.take (Nat.div (Jt l) 2)∨y∈l.drop (Nat.div (Jt l) 2)→y∈l:=fun y hy=>by
   rcases hy with hy|hy
   ·exact List.mem_of_mem_take hy
   ·exact G7 hy
  generalize l.take (Nat.div (Jt l) 2)=u at h hm;generalize l.drop (Nat.div (Jt l) 2)=w at h hm;cases w with
  |nil=>cases h
  |cons a t=>
   change bo (Nat.beq f a.f) (c a.x a.rk (JkB a.x)) (bo (Nat.blt f a.f) (trG (JaV n u) f c) (trG (JaV n t) f c))=some r at h;rcases Jc h with ⟨h1,h2⟩|⟨_,h2⟩
   ·exact⟨a,_,hm _ (.inr (.head _)),(JD h1).symm,h2⟩
   ·rcases Jc h2 with ⟨_,h3⟩|⟨_,h3⟩
    ·obtain⟨b,cl,hb,h4⟩:=JbB n u h3;exact⟨b,cl,hm _ (.inl hb),h4⟩
    ·obtain⟨b,cl,hb,h4⟩:=JbB n t h3;exact⟨b,cl,hm _ (.inr (.tail _ hb)),h4⟩
def JcW (args:List V):Nat→EL V:=@List.rec V (fun _=>Nat→EL V) (fun _=>.n) (fun a _ ih i=>.c i a (ih (Nat.succ i))) args
theorem Jcs:∀(args:List V) (i t:Nat),elR (JcW args i) (i+t)=(args[t]?).getD .undef
 |[],i,t=>rfl
 |a::l,i,t=>by
  show bo (Nat.beq i (i+t)) a (elR (JcW l (i+1)) (i+t))=_
  cases t with
  |zero=>rw[show Nat.beq i (i+0)=true from Nat.beq_refl i];rfl
  |succ t=>
   rw[Jb4 (show i≠i+(t+1) by omega)]
   show elR (JcW l (i+1)) (i+(t+1))=_
   rw[show i+(t+1)=(i+1)+t by omega,Jcs l (i+1) t]
   rfl
theorem Jeu (args:List V):den (JcW args 0) .n .n=JE args:=by
 unfold den JE
 congr 1
 funext t
 have:=Jcs args 0 t;rw[Gaj] at this;exact this
def Jlc (F:F) (ρ:EL V) (μ:ML) (A:AL):FO:=Jac F (den ρ μ A)
def JhZ (F:F) (k:Nat) (ρ:EL V) (μ:ML) (A:AL):FO:=JaK F k (den ρ μ A)
def fn1 (κ:Nat→List V→FO) (n:Nat) (args:List V) (cl:List Nat) (x:Fn):FO:=@Fn.rec (fun _=>FO)
 (fun F=>bo (Nat.beq (Jt args) F.np) (exF κ cl n F.body (JcW args 0) .n .n (Jlc F) (Jlc F) (fun _ _ _ _=>none)) none)
 (fun _ p=>p args)
 (fun F k=>bo (Nat.beq (Jt args) F.np) (oc (Jak args k) fun x=>match x with
  |.tuple (.lref 0 0::cs)=>taL cs 9000 .n fun ts A=>exF κ cl n F.body (.c k (.lref k 0) (JcW args 0)) (.c k (ts,false) .n) A (JhZ F k) (JhZ F k) (fun _ _ _ _=>none)
  |_=>none) none) x
def JcM (T:FTr) (n:Nat) (mu:Nat→Nat→List V→FO) (m:Nat):Nat→List V→FO:=
 @Nat.rec (fun _=>Nat→List V→FO) (fun _ _=>none) (fun _ ih f args=>trG T f fun x rk cl=>@Option.rec _ (fun _=>FO) (fn1 ih n args cl x) (fun j=>Jc7 args fun a=>mu j f a) rk) m
def muT (T:FTr) (n m:Nat) (r:Nat):Nat→Nat→List V→FO:=@Nat.rec (fun _=>Nat→Nat→List V→FO) (fun _ _ _=>none)
 (fun r ih j f a=>bo (Nat.beq j r) (trG T f fun x _ cl=>fn1 (JcM T n ih m) n a cl x) (ih j f a)) r
def Jmf (l:List Ft) (d n m r:Nat) (f:Nat) (args:List V):FO:=JcM (JaV d l) n (muT (JaV d l) n m r) m f args
variable {Pg:Nat→Option Fn}
def JfT (Pg:Nat→Option Fn) (f:Nat) (x:Fn):Prop:=Pg f=some x∨∃o p,x=.prim o p∧∀a r,p a=some r→K' Pg f a=some r
theorem JeW {κ:Nat→List V→FO} (ih:Le κ (K' Pg)) {n f:Nat} {a:List V} {cl:List Nat} {x:Fn} {r:V} (h3:JfT Pg f x) (h2:fn1 κ n a cl x=some r):K' Pg f a=some r:=by
 cases x with
 |code F=>
  rcases h3 with h3|⟨o,p,e,-⟩
  ·rcases Jc h2 with ⟨h4,h5⟩|⟨_,h5⟩<;>try (cases h5;done)
   rw[Jm] at h4;obtain⟨m',ex,ρ',μ',A',h6,h7⟩:=Jaz _ h5;rw[Jeu] at h6;refine K'_codeP h3 (JD h4) ⟨m',ex,_,Jn ih (Gn m') h6,?_⟩;cases ex with
   |norm=>exact⟨.inl rfl,h7⟩
   |ret=>exact⟨.inr rfl,h7⟩
   |exit id=>cases h7
  ·cases e
 |prim o p=>
  change p a=some r at h2;rcases h3 with h3|⟨o',p',e,h3⟩
  ·rw[JfU h3];exact h2
  ·cases e;exact h3 _ _ h2
 |codeR F k=>
  rcases h3 with h3|⟨o,p,e,-⟩
  ·rcases Jc h2 with ⟨h4,h5⟩|⟨_,h5⟩<;>try (cases h5;done)
   rw[Jm] at h4;obtain⟨x,h6,h7⟩:=Jg h5;rw[JX] at h6;split at h7<;>try (cases h7;done)
   rename_i cs;obtain⟨ts,A,h8,h9⟩:=Jb2 h7;obtain⟨m',ex,ρ',μ',A',h10,h11⟩:=Jaz _ h9;have hs:startR a k cs=some (den (.c k (.lref k 0) (JcW a 0)) (.c k (ts,false) .n) A):=by
    unfold startR;rw[show (fun _=>none:AA)=elG (.n:AL) from rfl,h8,Option.bind_some]
    congr 1
    unfold den
    congr 1
    ·rw[Jbp]
     funext t
     have:=Jcs a 0 t;rw[Gaj] at this
     show _=upd (elR (JcW a 0)) k (V.lref k 0) t
     unfold upd;rw[this]
    ·rw[Jb9];rfl
   refine Qa h3 (JD h4) h6 hs ⟨m',ex,_,Jn ih (Gn m') h10,?_⟩;cases ex with
   |norm=>exact⟨.inl rfl,h11⟩
   |ret=>exact⟨.inr rfl,h11⟩
   |exit id=>cases h11
  ·cases e
theorem JbL {l:List Ft} {d n:Nat} (hT:∀a∈l,JfT Pg a.f a.x) {mu:Nat→Nat→List V→FO} (hm:∀j f a r,mu j f a=some r→K' Pg f a=some r):∀m,Le (JcM (JaV d l) n mu m) (K' Pg)
 |0=>fun f a r h=>by cases h
 |m+1=>fun f a r hr=>by
  have ih:=JbL (d:=d) (n:=n) hT hm m;have hr:trG (JaV d l) f (fun x rk cl=>@Option.rec _ (fun _=>FO) (fn1 (JcM (JaV d l) n mu m) n a cl x) (fun j=>Jc7 a fun a=>mu j f a) rk)=some r:=hr;obtain⟨b,cl,hb,hf,h1⟩:=JbB d l hr;subst hf;cases q:b.rk with
  |none=>rw[q] at h1;exact JeW ih (hT b hb) h1
  |some j=>
   rw[q] at h1;change Jc7 a (fun a=>mu j b.f a)=some r at h1;rw[Jc8] at h1;exact hm _ _ _ _ h1
theorem Jff {l:List Ft} {d n m:Nat} (hT:∀a∈l,JfT Pg a.f a.x):∀r j f a v,muT (JaV d l) n m r j f a=some v→K' Pg f a=some v
 |0,j,f,a,v,h=>by cases h
 |r+1,j,f,a,v,h=>by
  have ih:=Jff (d:=d) (n:=n) (m:=m) hT r;have h:bo (Nat.beq j r) (trG (JaV d l) f fun x _ cl=>fn1 (JcM (JaV d l) n (muT (JaV d l) n m r) m) n a cl x) (muT (JaV d l) n m r j f a)=some v:=h;rcases Jc h with ⟨_,h1⟩|⟨_,h1⟩
  ·obtain⟨b,cl,hb,hf,h2⟩:=JbB d l h1;subst hf;exact JeW (JbL hT ih m) (hT b hb) h2
  ·exact ih _ _ _ _ h1
theorem frun_ok {l:List Ft} {d n m r f:Nat} {a:List V} {v:V} (hT:∀a∈l,JfT Pg a.f a.x) (h:Jmf l d n m r f a=some v):K' Pg f a=some v:=
 JbL hT (Jff hT r) m f a v h
end
end Sg
namespace Sg
open _root_.Go (IntKind BinOp UnOp)
section
variable {A:AA} {S:St} {κ:Nat→List V→Option V}
theorem Je5:Jaj [] A=some ([],A):=rfl
theorem Jec {x xs}:Jaj (x::xs) A=(handC A x).bind fun r=>(Jaj xs r.2).bind fun q=>some (r.1::q.1,q.2):=rfl
theorem JgD {k n}:handC A (.int k n)=some (.int k n,A):=rfl
theorem JgC {n}:handC A (.bool n)=some (.bool n,A):=rfl
theorem JgG {n}:handC A (.str n)=some (.str n,A):=rfl
theorem JgF {z n}:handC A (.slice z n)=some (.slice z n,A):=rfl
theorem Je4 {z}:handC A (.nslice z)=some (.tuple [.slice z []],A):=rfl
def hdO (A:AA) (s z n:Nat):Option (Nat×List (List V)×Fz)→Option (V×AA)
 |some (z',rows,.live)=>if z'=z∧rows.length=n then some (.tuple [.slice z rows],upd A s (some (z,[],.dead))) else none
 |_=>none
theorem JgE {s z n}:handC A (.own s z n)=hdO A s z n (A s):=rfl
theorem Jli {s z n rows}:hdO A s z n (some (z,rows,.live))=if rows.length=n then some (.tuple [.slice z rows],upd A s (some (z,[],.dead))) else none:=by simp[hdO]
theorem JfK {d}:JT d [] A=some ([],A):=rfl
theorem Jew {d x xs}:JT d (x::xs) A=(takeC d A x).bind fun r=>(JT (d+1) xs r.2).bind fun q=>some (r.1::q.1,q.2):=rfl
theorem JhE {d k n}:takeC d A (.int k n)=some (.int k n,A):=rfl
theorem JhD {d n}:takeC d A (.bool n)=some (.bool n,A):=rfl
theorem JhG {d n}:takeC d A (.str n)=some (.str n,A):=rfl
theorem JhF {d z n}:takeC d A (.slice z n)=some (.slice z n,A):=rfl
def tkO (d:Nat) (A:AA) (z:Nat) (rows:List (List V)):Option (Nat×List (List V)×Fz)→Option (V×AA)
 |none=>some (.own d z rows.length,upd A d (some (z,rows,.live)))
 |some _=>none
theorem JhH {d z rows}:takeC d A (.tuple [.slice z rows])=tkO d A z rows (A d):=by
 simp only[takeC,tkO];cases A d<;>rfl
theorem JlT {d z rows}:tkO d A z rows none=some (.own d z rows.length,upd A d (some (z,rows,.live))):=rfl
theorem Jjf {z}:nilT (.nslice z)=.tuple [.slice z []]:=rfl
theorem Jje {k n}:nilT (.int k n)=.int k n:=rfl
theorem Jjd {n}:nilT (.bool n)=.bool n:=rfl
theorem Jjh {n}:nilT (.str n)=.str n:=rfl
theorem Jjg {z n}:nilT (.slice z n)=.slice z n:=rfl
theorem Jmd {b f k s avs}:JaW κ b S f k s avs=(rcallA S k s avs).bind fun q=>(κ f q.1).bind fun r=>rcallE b S s q.2 r:=rfl
def Jjx (S:St) (k:Nat) (avs bs:List V):Option (List V×Bool)→Option (List V×AA)
 |some (cs,false)=>(Jaj cs (Ju S.A ((avs.set k .undef).flatMap Jf))).bind fun h=>some (bs.set k (.tuple (.lref 0 0::h.1)),h.2)
 |_=>none
def Jjv (S:St) (k s:Nat) (avs:List V):Option V→Option (List V×AA)
 |some (.lref s' 0)=>if s'=s then (Js (toD S.A) (avs.set k .undef)).bind fun bs=>Jjx S k avs bs (S.μ s) else none
 |_=>none
theorem Jfq {k s avs}:rcallA S k s avs=Jjv S k s avs (avs[k]?):=rfl
theorem Jjw {k s avs}:Jjv S k s avs (some (.lref s 0))=(Js (toD S.A) (avs.set k .undef)).bind fun bs=>Jjx S k avs bs (S.μ s):=by simp[Jjv]
theorem Jjy {k avs bs cs}:Jjx S k avs bs (some (cs,false))=(Jaj cs (Ju S.A ((avs.set k .undef).flatMap Jf))).bind fun h=>some (bs.set k (.tuple (.lref 0 0::h.1)),h.2):=rfl
theorem Jfr {b s r0 us}:rcallE b S s A (.tuple [r0,.tuple us])=(JT b us A).bind fun t=>some (r0,⟨S.ρ,upd S.μ s (some (t.1,false)),t.2⟩):=rfl
theorem Jl2:toD A .undef=some .undef:=rfl
theorem Jhr:Jf .undef=[]:=rfl
theorem Jib {s z z' n y}:appW S z (.own s z' n) y=J8 S s z (.own s z' n) y:=rfl
theorem Jmj {n s i off m}:Jy S .x n (.eref s i off m)=ldE n i off m (S.A s):=rfl
def bsO:Option V→Option V
 |some (.slice 1 rows)=>(bytesR rows).bind fun l=>some (.str l)
 |_=>none
theorem Jkw {x}:Jf1 A x=bsO (toDC A x):=rfl
theorem Jkz {rows}:bsO (some (.slice 1 rows))=(bytesR rows).bind fun l=>some (.str l):=rfl
theorem JdZ:∀(l:List UInt8),bytesR (l.map fun b=>[.int .u8 b.toNat])=some l
 |[]=>rfl
 |b::l=>by simp[bytesR,JdZ l]
theorem Jd0 {n:Int}:bytesR [[.int .u8 n]]=some [UInt8.ofNat n.toNat]:=rfl
def fzO (z n:Nat):Option (Nat×List (List V)×Fz)→Option V
 |some (z',rows,.frz)=>if z'=z∧rows.length=n then some (.slice z rows) else none
 |_=>none
theorem JiM {s z n}:frzD A s (.own s z n)=fzO z n (A s):=by simp[frzD,fzO];rfl
theorem Jlf {z n rows}:fzO z n (some (z,rows,.frz))=if rows.length=n then some (.slice z rows) else none:=by simp[fzO]
theorem Jl9 {s j h:Nat} {L Wv Wa:List Nat}:S.head [] (s::j::h::L) Wv Wa=(S.swp1 s j h).head [] L Wv Wa:=rfl
def sw2 (S:St) (h:Nat):Option V→St
 |some (.own x _ _)=>S.ren x h
 |_=>S
def sw1 (S:St) (j h:Nat):Option (List V×Bool)→St
 |some (cs,_)=>sw2 S h cs[j]?
 |none=>S
theorem Jj3 {s j h:Nat}:S.swp1 s j h=sw1 S j h (S.μ s):=by
 unfold St.swp1 sw1 sw2
 rfl
theorem JlO {j h cs f}:sw1 S j h (some (cs,f))=sw2 S h cs[j]?:=rfl
theorem JlP {h x z n}:sw2 S h (some (.own x z n))=S.ren x h:=rfl
theorem Jly {x h t}:(S.ren x h).ρ t=Jah x h (S.ρ t):=rfl
theorem Jlx {x h t}:(S.ren x h).μ t=(S.μ t).map fun m=>(m.1.map (JP x h),m.2):=rfl
theorem Jlu {x h t}:(S.ren x h).A t=S.A (swp x h t):=rfl
theorem JjH {x h k n}:Jah x h (.int k n)=.int k n:=rfl
theorem JjF {x h n}:Jah x h (.bool n)=.bool n:=rfl
theorem JjL {x h n}:Jah x h (.str n)=.str n:=rfl
theorem JjK {x h z n}:Jah x h (.slice z n)=.slice z n:=rfl
theorem JjG {x h z n}:Jah x h (.func z n)=.func z n:=rfl
theorem JjM {x h}:Jah x h .undef=.undef:=rfl
theorem JjI {x h s o}:Jah x h (.lref s o)=.lref s o:=rfl
theorem JjJ {x h s z n}:Jah x h (.own s z n)=.own (swp x h s) z n:=rfl
theorem JjE {x h cs}:Jah x h (.agg cs)=.agg (cs.map (JP x h)):=rfl
theorem JjA {x h k n}:JP x h (.int k n)=.int k n:=rfl
theorem Jjz {x h n}:JP x h (.bool n)=.bool n:=rfl
theorem JjD {x h n}:JP x h (.str n)=.str n:=rfl
theorem JjC {x h z n}:JP x h (.slice z n)=.slice z n:=rfl
theorem JjB {x h s z n}:JP x h (.own s z n)=.own (swp x h s) z n:=rfl
theorem JlQ {x h:Nat}:swp x h x=h:=by simp[swp]
theorem JlS {x h:Nat}:swp x h h=x:=by unfold swp;split<;>simp_all
theorem JlR {x h t:Nat} (h1:(t == x)=false) (h2:(t == h)=false):swp x h t=t:=by
 have h1:t≠x:=by simpa using h1
 have h2:t≠h:=by simpa using h2
 simp[swp,h1,h2]
end
attribute [go_sem] JiM Jlf Je5 Jec JgD JgC JgG JgF Je4 JgE Jli JfK Jew JhE JhD JhG JhF JhH JlT Jjf Jje Jjd Jjh Jjg Jfq Jjw Jjy Jfr Jl2 Jhr Jib Jmj Jkw Jkz Jd0
attribute [go_sem] Jj3 JlO JlP Jly Jlx Jlu JjH JjF JjL JjK JjG JjM JjI JjJ JjE JjA Jjz JjD JjC JjB JlQ JlS JlR
section
variable {S:St} {s off n:Nat}
theorem JlJ {a z m}:JC S (.v s) 1 (.lref s off) (.own a z m)=stV S s off [.own a z m] (S.μ s):=by rw[Jc6];rfl
theorem JlI {k m}:JC S (.v s) 1 (.lref s off) (.int k m)=stV S s off [.int k m] (S.μ s):=by rw[Jc6];rfl
theorem JlH {m}:JC S (.v s) 1 (.lref s off) (.bool m)=stV S s off [.bool m] (S.μ s):=by rw[Jc6];rfl
theorem JlL {m}:JC S (.v s) 1 (.lref s off) (.str m)=stV S s off [.str m] (S.μ s):=by rw[Jc6];rfl
theorem JlK {z m}:JC S (.v s) 1 (.lref s off) (.slice z m)=stV S s off [.slice z m] (S.μ s):=by rw[Jc6];rfl
theorem Jj1 {z}:JC S (.v s) 1 (.lref s off) (.nslice z)=stV S s off [.nslice z] (S.μ s):=by rw[Jc6];rfl
theorem JlG {cs}:JC S (.v s) n (.lref s off) (.agg cs)=if cs.length=n then stV S s off cs (S.μ s) else none:=by rw[Jc6];rfl
end
attribute [go_sem high] JlJ JlI JlH JlL JlK Jj1 JlG
attribute [go_sem] List.set_cons_zero List.set_cons_succ
end Sg
namespace Sg
def stay (Wv:List Nat):V→Bool
 |.int ..|.bool _|.str _|.slice ..|.func ..|.undef=>true
 |.lref s _=>!Wv.contains s
 |_=>false
section
variable {S:St}
theorem Jfx {Wv:List Nat} {x h:Nat} {v:V} (hs:stay Wv v=true):Jah x h v=v:=by cases v<;>simp_all [stay,Jah]
theorem Jdy {Wv Wa:List Nat} {v:V} (hs:stay Wv v=true):Jo Wv Wa v=v:=by
 cases v<;>simp_all [stay,Jo]
theorem Jfv {x h:Nat} {cs:List V} (hd:cs.all V.datC=true):cs.map (JP x h)=cs:=by
 rw[Gv] at hd
 conv=>rhs;rw[←List.map_id cs]
 refine GS fun y hy=>?_;have:=hd y hy;cases y<;>simp_all [JP,V.datC]
theorem Jdv {Wa:List Nat} {cs:List V} (hd:cs.all V.datC=true):cs.map (JA Wa)=cs:=by
 rw[Gv] at hd
 conv=>rhs;rw[←List.map_id cs]
 refine GS fun y hy=>?_;have:=hd y hy;cases y<;>simp_all [JA,V.datC]
theorem Jj5 {s j h i:Nat} {Wv:List Nat} (hs:stay Wv (S.ρ i)=true):(S.swp1 s j h).ρ i=S.ρ i:=by
 unfold St.swp1;split
 ·split
  ·exact Jfx hs
  ·rfl
 ·rfl
theorem Jj4 {s j h i:Nat} {cs:List V} {f:Bool} (hm:S.μ i=some (cs,f)) (hd:cs.all V.datC=true):(S.swp1 s j h).μ i=some (cs,f):=by
 unfold St.swp1;split
 ·split
  ·simp only[St.ren,hm,Option.map_some,Jfv hd]
  ·exact hm
 ·exact hm
theorem Jhy {s j h i:Nat} (hm:S.μ i=none):(S.swp1 s j h).μ i=none:=by
 unfold St.swp1;split
 ·split
  ·simp only[St.ren,hm,Option.map_none]
  ·exact hm
 ·exact hm
theorem Jbm {Wv:List Nat}:∀(n:Nat) (L:List Nat) (S:St),L.length≤n→(∀i,stay Wv (S.ρ i)=true→(S.swps L).ρ i=S.ρ i)∧(∀i cs f,S.μ i=some (cs,f)→cs.all V.datC=true→(S.swps L).μ i=some (cs,f))∧
  ∀i,S.μ i=none→(S.swps L).μ i=none:=by
 intro n
 induction n with
 |zero=>
  intro L S hL
  have:L=[]:=GD (by omega)
  subst this
  exact⟨fun _ _=>rfl,fun _ _ _ h _=>h,fun _ h=>h⟩
 |succ n ih=>
  intro L S hL
  match L,hL with
  |[],_=>exact⟨fun _ _=>rfl,fun _ _ _ h _=>h,fun _ h=>h⟩
  |[_],_=>exact⟨fun _ _=>rfl,fun _ _ _ h _=>h,fun _ h=>h⟩
  |[_,_],_=>exact⟨fun _ _=>rfl,fun _ _ _ h _=>h,fun _ h=>h⟩
  |s::j::h::l,hL=>
   obtain⟨i1,i2,i3⟩:=ih l (S.swp1 s j h) (by simp at hL;omega)
   refine⟨fun i hs=>?_,fun i cs f hm hd=>i2 i cs f (Jj4 hm hd) hd,fun i hm=>i3 i (Jhy hm)⟩
   have e:=Jj5 (s:=s) (j:=j) (h:=h) hs
   exact (i1 i (by rw[e];exact hs)).trans e
theorem Jmc {L Wv Wa:List Nat} {i:Nat} {v:V} (hv:S.ρ i=v) (hs:stay Wv v=true):(S.head [] L Wv Wa).ρ i=v:=by
 subst hv;have e:=(Jbm (Wv:=Wv) L.length L S (Gn _)).1 i hs
 show Jo Wv Wa ((S.swps L).ρ i)=_
 rw[e];exact Jdy hs
theorem Jmb {L Wv Wa:List Nat} {i:Nat} {cs:List V} {f:Bool} (hm:S.μ i=some (cs,f)) (hd:cs.all V.datC=true) (hw:Wv.contains i=false):(S.head [] L Wv Wa).μ i=some (cs,f):=by
 have e:=(Jbm (Wv:=Wv) L.length L S (Gn _)).2.1 i cs f hm hd
 show (if Wv.contains i then none else _)=_
 rw[hw,e];simp only[Gr,GG,Option.map_some,Jdv hd];cases Wa.isEmpty<;>rfl
theorem Jma {L Wv Wa:List Nat} {i:Nat} (hm:S.μ i=none∨Wv.contains i=true):(S.head [] L Wv Wa).μ i=none:=by
 show (if Wv.contains i then none else _)=_
 rcases hm with hm|hm
 ·have e:=(Jbm (Wv:=Wv) L.length L S (Gn _)).2.2 i hm;rw[e];split<;>rfl
 ·rw[hm];rfl
def Fr (A:AA) (n:Nat):Prop:=∀x,n≤x→A x=none
end
end Sg
namespace Sg
open Go Go.RowKit
inductive CT where
 |bool
 |int (k:IntKind)
 |str
 |slice (r:List CT)
 deriving Inhabited
abbrev gt (r:List CT) (j:Nat):CT:=r.getD j .bool
inductive HasN (N:Nat):CT→V→Prop
 |bool (b):HasN N .bool (.bool b)
 |int (k n) (h:(Lit.int k n).wf=true):HasN N (.int k) (.int k n)
 |str (s) (h:s.length≤N):HasN N .str (.str s)
 |slice (r:List CT) (rows:List (List V)) (hl:rows.length≤N) (hz:∀i,i<rows.length→(gr rows i).length=r.length)
   (h:∀i j,i<rows.length→j<r.length→HasN N (gt r j) (gv (gr rows i) j)):HasN N (.slice r) (.slice r.length rows)
structure BK {H:Type} (bk:DataW H→Nat) (bkA:List (DataW H)→Nat):Prop where
 str:∀b,bk (.lit (.string b))=b.length+1
 slice:∀e s,bk (.slice e s)=bkA e+bkA s+1
 agg:∀p,bk (.agg p)=bkA p+1
 cons:∀d l,bkA (d::l)=bk d+bkA l
 one:∀d,1≤bk d
theorem BK.part {H:Type} {bk:DataW H→Nat} {bkA:List (DataW H)→Nat} (h:BK bk bkA) {d:DataW H}:∀{l:List (DataW H)},d∈l→bk d≤bkA l
 |x::l,hd=>by
  rw[h.cons];rcases GM.1 hd with rfl|hd
  ·omega
  ·have:=h.part hd;omega
theorem BK.len {H:Type} {bk:DataW H→Nat} {bkA:List (DataW H)→Nat} (h:BK bk bkA):∀{l:List (DataW H)},l.length≤bkA l
 |[]=>Gae _
 |x::l=>by
  rw[h.cons];have:=h.len (l:=l);have:=h.one x;simp only[List.length_cons];omega
mutual
def wtV:V→Nat
 |.str s=>s.length
 |.slice _ rows=>rows.length+wtR rows
 |.agg cs=>wtL cs
 |_=>0
def wtL:List V→Nat
 |[]=>0
 |v::l=>wtV v+wtL l
def wtR:List (List V)→Nat
 |[]=>0
 |r::l=>wtL r+wtR l
end
theorem wtL_append:∀{a b:List V},wtL (a++b)=wtL a+wtL b
 |[],b=>by simp[wtL]
 |x::a,b=>by simp only[List.cons_append,wtL,wtL_append (a:=a)];omega
theorem Jau {x:V}:wtL [x]=wtV x:=by simp[wtL]
theorem BK.rows {H:Type} {bk:DataW H→Nat} {bkA:List (DataW H)→Nat} (h:BK bk bkA):∀{es:List (DataW H)} {f:Nat→List V},(∀i d,es[i]?=some d→wtL (f i)+1≤bk d)→wtR ((List.range es.length).map f)+es.length≤bkA es
 |[],f,_=>by simp[wtR]
 |d::es,f,hf=>by
  have h0:=hf 0 d rfl;have ih:=h.rows (es:=es) (f:=fun i=>f (i+1)) fun i d' hd=>hf (i+1) d' (by simpa using hd);rw[h.cons];simp only[List.length_cons,List.range_succ_eq_map,Gq,List.map_map,wtR];have e:(f ∘ Nat.succ)=fun i=>f (i+1):=rfl;rw[e];omega
def Fit {H:Type} (N:Nat) (bk:DataW H→Nat) (bkA:List (DataW H)→Nat) (d:DataW H):Prop:=maxLen≤N∨(BK bk bkA∧bk d≤N)
section
variable (P:Program)
def JcY (g:TypeId→Option (List CT)):List Field→Nat→Option (List CT)
 |[],_=>some []
 |f::fs,o=>if f.offset=o then (g f.type).bind fun r=>if szT P f.type=some r.length then (JcY g fs (o+r.length)).bind fun rs=>some (r++rs) else none else none
def rowT:Nat→TypeId→Option (List CT)
 |0,_=>none
 |n+1,t=>match P.underlying t with
  |some .bool=>some [.bool]
  |some (.int k)=>some [.int k]
  |some .string=>some [.str]
  |some (.slice e)=>(rowT n e).bind fun r=>if szT P e=some r.length∧r.length≠0 then some [.slice r] else none
  |some (.struct fs)=>(JcY P (rowT n) fs.toList 0).bind fun r=>if szT P t=some r.length then some r else none
  |_=>none
end
section
variable {P:Program} {cx:Cx} {w:World} {X:Nat→Prop} {N:Nat}
def Row (N:Nat) (cx:Cx) (w:World) (X:Nat→Prop) (r:List CT) (f:Nat→Option Value) (xs:List V):Prop:=
 xs.length=r.length∧∀j,j<r.length→∃u,f j=some u∧u.oneCell'=true∧RelD cx w X u (gv xs j)∧HasN N (gt r j) (gv xs j)
theorem Row.append {r1 r2:List CT} {f:Nat→Option Value} {xs ys:List V} (h1:Row N cx w X r1 f xs) (h2:Row N cx w X r2 (fun j=>f (r1.length+j)) ys):Row N cx w X (r1++r2) f (xs++ys):=by
 refine⟨by simp[h1.1,h2.1],fun j hj=>?_⟩;simp only[Gc] at hj;by_cases hlt:j<r1.length
 ·obtain⟨u,a,b,c,d⟩:=h1.2 j hlt;refine⟨u,a,b,?_,?_⟩
  ·rw[show gv (xs++ys) j=gv xs j from by simp[gv,List.getD_eq_getElem?_getD,List.getElem?_append_left (by rw[h1.1];exact hlt)]];exact c
  ·rw[show gv (xs++ys) j=gv xs j from by simp[gv,List.getD_eq_getElem?_getD,List.getElem?_append_left (by rw[h1.1];exact hlt)],
    show gt (r1++r2) j=gt r1 j from by simp[gt,List.getD_eq_getElem?_getD,List.getElem?_append_left hlt]];exact d
 ·obtain⟨u,a,b,c,d⟩:=h2.2 (j-r1.length) (by omega);have e:r1.length+(j-r1.length)=j:=by omega
  simp only[e] at a;have g1:gv (xs++ys) j=gv ys (j-r1.length):=by
   simp only[gv,List.getD_eq_getElem?_getD];rw[List.getElem?_append_right (by rw[h1.1];omega),h1.1]
  have g2:gt (r1++r2) j=gt r2 (j-r1.length):=by
   simp only[gt,List.getD_eq_getElem?_getD];rw[List.getElem?_append_right (by omega)]
  exact⟨u,a,b,by rw[g1];exact c,by rw[g1,g2];exact d⟩
theorem Row.one {c:CT} {f:Nat→Option Value} {u:Value} {x:V} (h0:f 0=some u) (h1:u.oneCell'=true) (h2:RelD cx w X u x) (h3:HasN N c x):Row N cx w X [c] f [x]:=
 ⟨rfl,fun j hj=>by
  have:j=0:=by simp at hj;exact hj
  subst this;exact⟨u,h0,h1,h2,h3⟩⟩
theorem JdH {a:Addr} {u:Value} (h:w.cell? a=some u):∃c e fr,a=⟨a.block,a.off,none⟩∧w.heap[a.block]?=some (.cells c e fr)∧c[a.off]?=some u:=by
 obtain⟨b,o,sp⟩:=a;unfold World.cell? at h;split at h
 ·rename_i c e fr hc;split at h
  ·simp at h
  ·rename_i hs;cases sp with
   |none=>exact⟨c,e,fr,rfl,hc,h⟩
   |some x=>simp at hs
 ·simp at h
theorem Jbn {t:TypeId} {n:Nat} (h:szT P t=some n):P.cellsOf t=n:=by
 unfold szT at h;unfold Program.cellsOf;rw[h];rfl
theorem JbM {H:Type} {enc:TypeId×Value→H} {bk:DataW H→Nat} {bkA:List (DataW H)→Nat} {fuel:Nat} {g:TypeId→Option (List CT)} {cs:List Value}
  (ih:∀(t:TypeId) (cs:List Value) (d:DataW H) (ps:List MemPlace) (r:List CT),DataW.trod enc P w 0 (fun _=>true) true fuel t cs=some (d,ps)→g t=some r→Fit N bk bkA d→∃xs,Row N cx w X r (fun j=>cs[j]?) xs∧(BK bk bkA→wtL xs+1≤bk d)) :
  ∀(fs:List Field) (o:Nat) (ys:List (DataW H×List MemPlace)) (r:List CT),(fs.mapM fun f=>DataW.trod enc P w 0 (fun _=>true) true fuel f.type ((cs.drop f.offset).take (P.cellsOf f.type)))=some ys→
   JcY P g fs o=some r→(∀y∈ys,Fit N bk bkA y.1)→∃xs,Row N cx w X r (fun j=>cs[o+j]?) xs∧(BK bk bkA→wtL xs≤bkA (ys.map fun y=>y.1))
 |[],o,ys,r,_,hr,_=>by
  simp only[JcY,Ga] at hr;subst hr;exact⟨[],⟨rfl,fun j hj=>by simp at hj⟩,fun _=>by simp[wtL]⟩
 |f::fs,o,ys,r,h,hr,hfit=>by
  rw[List.mapM_cons] at h;simp only[JcY] at hr;split at hr<;>try (simp at hr;done)
  rename_i ho;simp only[Gb] at hr;obtain⟨r1,hr1,hr⟩:=hr;split at hr<;>try (simp at hr;done)
  rename_i hz;simp only[Gb,Ga] at hr;obtain⟨r2,hr2,rfl⟩:=hr;cases h1:DataW.trod enc P w 0 (fun _=>true) true fuel f.type ((cs.drop f.offset).take (P.cellsOf f.type)) with
  |none=>simp[h1] at h
  |some y=>
   cases h2:fs.mapM fun f=>DataW.trod enc P w 0 (fun _=>true) true fuel f.type ((cs.drop f.offset).take (P.cellsOf f.type)) with
   |none=>simp[h1,h2] at h
   |some zs=>
    obtain⟨d,ps⟩:=y;have hys:ys=(d,ps)::zs:=by simpa [h1,h2] using h.symm
    subst hys;obtain⟨xs,hx,wx⟩:=ih _ _ _ _ _ h1 hr1 (hfit _ (Gad ..));obtain⟨ys,hy,wy⟩:=JbM ih fs (o+r1.length) zs r2 h2 hr2 (fun y hy=>hfit y (G1 _ hy));have hx':Row N cx w X r1 (fun j=>cs[o+j]?) xs:=⟨hx.1,fun j hj=>by
     obtain⟨u,a,b⟩:=hx.2 j hj;refine⟨u,?_,b⟩;simp only at a ⊢;rw[Jbn hz,List.getElem?_take_of_lt hj,List.getElem?_drop,ho] at a;exact a⟩
    refine⟨xs++ys,hx'.append ?_,fun hb=>?_⟩
    ·simpa only [G0] using hy
    ·have:=wx hb;have:=wy hb;rw[wtL_append,Gq,hb.cons]
     show _≤bk d+_
     omega
theorem reading {H:Type} {enc:TypeId×Value→H} {bk:DataW H→Nat} {bkA:List (DataW H)→Nat}:∀(fuel:Nat) (n:Nat) (t:TypeId) (cs:List Value) (d:DataW H) (ps:List MemPlace) (r:List CT),
  DataW.trod enc P w 0 (fun _=>true) true fuel t cs=some (d,ps)→rowT P n t=some r→Fit N bk bkA d→∃xs,Row N cx w (fun _=>False) r (fun j=>cs[j]?) xs∧(BK bk bkA→wtL xs+1≤bk d)
 |0,n,t,cs,d,ps,r,h,_,_=>by simp[DataW.trod] at h
 |fuel+1,0,t,cs,d,ps,r,_,hr,_=>by simp[rowT] at hr
 |fuel+1,n+1,t,cs,d,ps,r,h,hr,hfit=>by
  have ih:=fun t cs d ps r=>reading (enc:=enc) (bk:=bk) (bkA:=bkA) fuel n t cs d ps r;unfold rowT at hr;unfold DataW.trod at h;split at hr
  ·rename_i ht;rw[ht] at h;simp only[Ga] at hr;subst hr;split at h<;>simp_all
   subst_vars
   exact⟨_,Row.one rfl rfl (.bool _) (.bool _),fun hb=>by have:=hb.one d;simpa [Jau,wtV] using this⟩
  ·rename_i k ht;rw[ht] at h;simp only[Ga] at hr;subst hr;split at h<;>simp_all;obtain⟨⟨rfl,hw⟩,-⟩:=h
   subst_vars
   exact⟨_,Row.one rfl rfl (.int _ _) (.int _ _ hw),fun hb=>by have:=hb.one d;simpa [Jau,wtV] using this⟩
  ·rename_i ht;rw[ht] at h;simp only[Ga] at hr;subst hr;split at h
   all_goals try (simp_all;done)
   rename_i s heq;split at h<;>simp only[Ga,reduceCtorEq,Gf] at h;rename_i hle;obtain⟨rfl,-⟩:=h;have hl:s.data.toList.length=s.size:=Array.length_toList;exact⟨_,Row.one rfl rfl (.str s) (.str _ (by
    rcases hfit with hfit|⟨hb,hfit⟩
    ·omega
    ·rw[hb.str] at hfit;omega)),fun hb=>by rw[hb.str,Jau,wtV,hl];omega⟩
  ·rename_i e ht;simp only[Gb] at hr;obtain⟨r1,hr1,hr⟩:=hr;split at hr<;>simp only[Ga,reduceCtorEq] at hr;rename_i hz;subst hr;rw[ht] at h;split at h
   all_goals try (simp_all;done)
   ·exact⟨_,Row.one rfl rfl (.nilslice none r1.length) (.slice r1 [] (by simp) (fun i hi=>by simp at hi) (fun i j hi=>by simp at hi)),fun hb=>by simpa [Jau,wtV,wtR] using hb.one _⟩
   ·rename_i e' a len cap heq;simp only[Ga,TypeDesc.slice.injEq] at heq;subst heq;simp only at h;split at h<;>try (simp at h;done)
    rename_i hc;obtain⟨-,hc1,hc2⟩:=hc;have hsz:P.cellsOf e=r1.length:=Jbn hz.1;simp only[Gb,GX] at h;obtain⟨elems,hel,rest,hrest,hd⟩:=h;simp only[Gf] at hd;obtain⟨rfl,-⟩:=hd;simp only[GF] at hrest;rw[hsz] at hel hrest;have el:∀i,i<cap→∃l,w.cells? 0 (a.add (i*r1.length)) r1.length=some l∧∃y,DataW.trod enc P w 0 (fun _=>true) true fuel e l=some y∧(y∈elems∨y∈rest)∧(i<len→elems[i]?=some y):=by
     intro i hi;have:∃y,((w.cells? 0 (a.add (i*r1.length)) r1.length).bind (DataW.trod enc P w 0 (fun _=>true) true fuel e))=some y∧(y∈elems∨y∈rest)∧(i<len→elems[i]?=some y):=by
      by_cases hlt:i<len
      ·have h1:=mapM_some_get hel i i (by simp[hlt]);have h2:=mapM_some_length hel;simp only[List.length_range] at h2;exact⟨elems[i],by rw[h1];simp,.inl (Gan _),fun _=>by simp⟩
      ·have hr0:(List.range (cap-len))[i-len]?=some (i-len):=by
        rw[List.getElem?_range (by omega)]
       have h1:=mapM_some_get hrest (i-len) (i-len) hr0;have h2:=mapM_some_length hrest;simp only[List.length_range] at h2;rw[show len+(i-len)=i from by omega] at h1;exact⟨rest[i-len],by rw[h1];simp,.inr (Gan _),fun h=>absurd h hlt⟩
     obtain⟨y,hy,hym⟩:=this;simp only[Gb] at hy;obtain⟨l,h1,h2⟩:=hy;exact⟨l,h1,y,h2,hym⟩
    have hfe:∀y,(y∈elems∨y∈rest)→Fit N bk bkA y.1:=fun y hy=>by
     rcases hfit with hfit|⟨hb,hfit⟩
     ·exact .inl hfit
     ·rw[hb.slice] at hfit;refine .inr ⟨hb,?_⟩;rcases hy with hy|hy
      ·have:=hb.part (List.mem_map_of_mem (f:=fun x:DataW H×List MemPlace=>x.1) hy);omega
      ·have:=hb.part (List.mem_map_of_mem (f:=fun x:DataW H×List MemPlace=>x.1) hy);omega
    have hln:len≤N:=by
     rcases hfit with hfit|⟨hb,hfit⟩
     ·omega
     ·rw[hb.slice] at hfit;have h1:=hb.len (l:=elems.map fun x=>x.1);have h2:=mapM_some_length hel;simp only[List.length_range,Gl] at h1 h2;omega
    by_cases hcap:cap=0
    ·subst hcap;obtain rfl:len=0:=by omega
     exact⟨_,Row.one rfl rfl (.nilslice (some a) r1.length) (.slice r1 [] (by simp) (fun i hi=>by simp at hi) (fun i j hi=>by simp at hi)),fun hb=>by simpa [Jau,wtV,wtR] using hb.one _⟩
    ·obtain⟨l0,hl0,-⟩:=el 0 (by omega);have hl0':=World.cells?_some hl0;obtain⟨c,ec,fr,hspot,hheap,-⟩:=JdH (w:=w) (a:=(a.add (0*r1.length)).add 0) (u:=l0[0]'(by omega)) (by rw[hl0'.2.2 0 (by omega)];simp);have hspot':a=⟨a.block,a.off,none⟩:=by
      obtain⟨b,o,sp⟩:=a;simp only[Addr.add] at hspot;cases sp<;>simp_all
     obtain⟨b,o,sp⟩:=a;simp only[Addr.mk.injEq,true_and] at hspot';subst hspot';have hheap:w.heap[b]?=some (.cells c ec fr):=by simpa [Addr.add] using hheap
     have row:∀i,i<len→∃xs,Row N cx w (fun _=>False) r1 (fun j=>c[o+i*r1.length+j]?) xs∧(BK bk bkA→∀d,(elems.map fun x=>x.1)[i]?=some d→wtL xs+1≤bk d):=by
      intro i hi;obtain⟨l,hl,⟨d',ps'⟩,hd,hym,hei⟩:=el i (by omega);obtain⟨xs,⟨hx1,hx2⟩,wx⟩:=ih _ _ _ _ _ hd hr1 (hfe _ hym);obtain⟨-,hl1,hl2⟩:=World.cells?_some hl;refine⟨xs,⟨hx1,fun j hj=>?_⟩,fun hb d hd=>by
       rw[List.getElem?_map,hei hi] at hd;simp only[Option.map_some,Ga] at hd;rw[←hd];exact wx hb⟩
      obtain⟨u,p1,p2⟩:=hx2 j hj;refine⟨u,?_,p2⟩;simp only at p1 ⊢;have h3:=hl2 j hj;rw[p1,JK,JK] at h3;obtain⟨c',_,_,_,h4,h5⟩:=JdH h3;rw[hheap] at h4;simp only[Ga,Obj.cells.injEq] at h4;obtain⟨rfl,-⟩:=h4;exact h5
     obtain⟨f,hf⟩:=JaC row;have hlen:((List.range len).map f).length=len:=by simp
     have hgr:∀i,i<len→gr ((List.range len).map f) i=f i:=fun i hi=>by simp[gr,hi]
     refine⟨[.slice r1.length ((List.range len).map f)],Row.one rfl rfl ?_ ?_,fun hb=>?_⟩
     ·refine Jbf (c:=c) (e:=ec) (fr:=fr) (JO hheap) id hheap (by simpa using hc1) (fun i hi=>?_) (fun i j hi hj=>?_) hlen
      ·rw[hlen] at hi;rw[hgr i hi];exact (hf i hi).1.1
      ·rw[hlen] at hi;rw[hgr i hi];obtain⟨u,p1,p2,p3,p4⟩:=(hf i hi).1.2 j hj;exact⟨u,p1,p2,p3⟩
     ·refine .slice r1 _ (by rw[hlen];exact hln) (fun i hi=>?_) (fun i j hi hj=>?_)
      ·rw[hlen] at hi;rw[hgr i hi];exact (hf i hi).1.1
      ·rw[hlen] at hi;rw[hgr i hi];obtain⟨u,p1,p2,p3,p4⟩:=(hf i hi).1.2 j hj;exact p4
     ·have hle:=mapM_some_length hel;simp only[List.length_range] at hle;have:=hb.rows (es:=elems.map fun x=>x.1) (f:=f) fun i d hd=>(hf i (by
       have:=(List.getElem?_eq_some_iff.1 hd).1;simp only[Gl] at this;omega)).2 hb d hd
      simp only[Gl,hle] at this;rw[hb.slice,Jau,wtV,hlen];omega
  ·rename_i fs ht;simp only[Gb] at hr;obtain⟨r1,hr1,hr⟩:=hr;split at hr<;>simp only[Ga,reduceCtorEq] at hr;subst hr;rw[ht] at h;split at h
   all_goals try (simp_all;done)
   rename_i fs' _ heq;simp only[Ga,TypeDesc.struct.injEq] at heq;subst heq;split at h<;>try (simp at h;done)
   simp only[GX] at h;obtain⟨ys,hys,hd⟩:=h;simp only[Gf] at hd;obtain⟨rfl,-⟩:=hd;have hfy:∀y∈ys,Fit N bk bkA y.1:=fun y hy=>by
    rcases hfit with hfit|⟨hb,hfit⟩
    ·exact .inl hfit
    ·rw[hb.agg] at hfit;have:=hb.part (List.mem_map_of_mem (f:=fun x:DataW H×List MemPlace=>x.1) hy);exact .inr ⟨hb,by omega⟩
   obtain⟨xs,hx,wx⟩:=JbM (fun t cs d ps r=>ih t cs d ps r) fs.toList 0 ys _ hys hr1 hfy;exact⟨xs,by simpa using hx,fun hb=>by have:=wx hb;rw[hb.agg];omega⟩
  ·simp at hr
end
end Sg
namespace Sg
open Go Go.RowKit Go.ChangeShapes Go.WideShapes
def isAgg (P:Program) (t:TypeId):Bool:=
 match P.underlying t with
 |some (.struct _)=>true
 |_=>false
def Jes (P:Program) (t:TypeId):Option (Bool×List CT):=(rowT P 20 t).bind fun r=>some (isAgg P t,r)
def JdA (N:Nat) (r:List CT) (xs:List V):Prop:=xs.length=r.length∧∀j,j<r.length→HasN N (gt r j) (gv xs j)
def ArgVN (N:Nat):Bool×List CT→V→Prop
 |(true,r),x=>∃xs,x=.agg xs∧JdA N r xs
 |(false,r),x=>∃c,r=[c]∧HasN N c x
def JbD (N:Nat):List (Bool×List CT)→List V→Prop
 |[],[]=>True
 |s::ss,x::xs=>ArgVN N s x∧JbD N ss xs
 |_,_=>False
abbrev ArgsV:List (Bool×List CT)→List V→Prop:=JbD maxLen
def FitV (N:Nat) (x:V):Prop:=maxLen≤N∨wtV x≤N
section
variable {P:Program} {cx:Cx} {w:World} {N:Nat}
theorem Jic {H:Type} {enc:TypeId×Value→H} {bk:DataW H→Nat} {bkA:List (DataW H)→Nat} {t:TypeId} {v:Value} {d:DataW H} {ps:List MemPlace} {s:Bool×List CT} {base:Nat} (h:DataW.Trod enc P w 0 (fun _=>true) true t v d ps)
  (hw:Value.okWide P w .any base t v) (hs:Jes P t=some s) (hfit:Fit N bk bkA d):∃x,RelD cx w (fun _=>False) v x∧ArgVN N s x∧FitV N x:=by
 unfold Jes at hs
 simp only[Gb,Ga] at hs
 obtain⟨r,hr,rfl⟩:=hs
 obtain⟨fuel,hf⟩:=h
 obtain⟨xs,⟨hl,hx⟩,hwt⟩:=reading (cx:=cx) (N:=N) (bk:=bk) (bkA:=bkA) fuel 20 t _ d ps r hf hr hfit
 have hF:FitV N (.agg xs):=by
  rcases hfit with hfit|⟨hb,hfit⟩
  ·exact .inl hfit
  ·have:=hwt hb;exact .inr (by show wtL xs≤N;omega)
 have one:∀c,r=[c]→v.cells=#[v]→isAgg P t=false→∃x,RelD cx w (fun _=>False) v x∧ArgVN N (isAgg P t,r) x∧FitV N x:=by
  intro c hc hv ha;subst hc;obtain⟨u,h1,h2,h3,h4⟩:=hx 0 (by simp);rw[hv] at h1;simp at h1;subst h1;refine⟨gv xs 0,h3,by rw[ha];exact⟨c,rfl,h4⟩,hF.imp id fun h=>?_⟩
  match xs,hl with
  |[x],_=>have h:wtL [x]≤N:=h;rw[Jau] at h;exact h
 unfold rowT at hr
 split at hr
 ·rename_i ht
  obtain⟨b,rfl⟩:=okWide_bool ht hw
  simp only[Ga] at hr
  exact one _ hr.symm rfl (by simp[isAgg,ht])
 ·rename_i k ht
  obtain⟨b,rfl⟩:=okWide_int ht hw
  simp only[Ga] at hr
  exact one _ hr.symm rfl (by simp[isAgg,ht])
 ·rename_i ht
  obtain⟨b,rfl⟩:=okWide_string ht hw
  simp only[Ga] at hr
  exact one _ hr.symm rfl (by simp[isAgg,ht])
 ·rename_i e ht
  obtain⟨a,len,cap,rfl⟩:=okWide_slice ht hw
  simp only[Gb] at hr
  obtain⟨r1,-,hr⟩:=hr
  split at hr<;>simp only[Ga,reduceCtorEq] at hr
  exact one _ hr.symm rfl (by simp[isAgg,ht])
 ·rename_i fs ht
  obtain⟨cs,rfl,hsz⟩:=okWide_struct ht hw
  simp only[Gb] at hr
  obtain⟨r1,-,hr⟩:=hr
  split at hr<;>simp only[Ga,reduceCtorEq] at hr
  rename_i hz
  subst hr
  have hcs:cs.size=r1.length:=by rw[hsz];exact Jbn hz
  have ha:isAgg P t=true:=by simp[isAgg,ht]
  obtain⟨u,hu⟩:=JaC hx
  refine⟨.agg xs,.agg cs xs u (by rw[hcs,hl]) (fun i hi=>?_) (fun i hi=>?_),?_⟩
  ·rw[hl] at hi
   have:=(hu i hi).1
   exact⟨by simpa [Value.cells] using this,(hu i hi).2.1⟩
  ·rw[hl] at hi;exact (hu i hi).2.2.1
  ·rw[ha];exact⟨⟨xs,rfl,hl,fun j hj=>(hu j hj).2.2.2⟩,hF⟩
 ·simp at hr
theorem args_ok {H:Type} {enc:TypeId×Value→H} {bk:DataW H→Nat} {bkA:List (DataW H)→Nat} {base:Nat}:∀(ts:List TypeId) (vs:List Value) (ds:List (DataW H)) (ps:List MemPlace) (ss:List (Bool×List CT)),DataW.TrodAll enc P w 0 (fun _=>true) true ts vs ds ps→
  (∀(j:Nat) t v,ts[j]?=some t→vs[j]?=some v→Value.okWide P w .any base t v)→Js (Jes P) ts=some ss→(∀d∈ds,Fit N bk bkA d)→
  ∃xs:List V,xs.length=vs.length∧(∀i,i<xs.length→∃u,vs[i]?=some u∧RelD cx w (fun _=>False) u (gv xs i))∧JbD N ss xs∧ds.length=ts.length∧∀x∈xs,FitV N x
 |[],vs,ds,ps,ss,h,_,hs,_=>by
  obtain⟨rfl,rfl,rfl⟩:=trodAll_nil h;simp only[Js,Ga] at hs;subst hs;exact⟨[],rfl,fun i hi=>by simp at hi,Gm,rfl,fun x hx=>by cases hx⟩
 |t::ts,vs,ds,ps,ss,h,hok,hs,hfit=>by
  match vs,ds,h,hfit with
  |v::vs,d::ds,h,hfit=>
   obtain⟨p,q,h1,h2,rfl⟩:=h;simp only[Js,Gb,Ga] at hs;obtain⟨s,hs1,ss',hs2,rfl⟩:=hs;obtain⟨x,hx1,hx2,hx3⟩:=Jic (cx:=cx) (N:=N) h1 (hok 0 t v rfl rfl) hs1 (hfit d (Gad ..));obtain⟨xs,a,b,c,e,e3⟩:=args_ok ts vs ds q ss' h2 (fun j t v hj hv=>hok (j+1) t v (by simpa using hj) (by simpa using hv)) hs2 (fun d hd=>hfit d (G1 _ hd));refine⟨x::xs,by simp[a],fun i hi=>?_,⟨hx2,c⟩,by simp[e],fun y hy=>by
    rcases GM.1 hy with rfl|hy
    ·exact hx3
    ·exact e3 y hy⟩
   cases i with
   |zero=>exact⟨v,rfl,by simpa [gv] using hx1⟩
   |succ i=>obtain⟨u,p1,p2⟩:=b i (by simpa using hi);exact⟨u,by simpa using p1,by simpa [gv] using p2⟩
theorem Jb7 {H:Type} {enc:TypeId×Value→H} {W W':World} {sp:Nat→Bool} (hl:laidOutB P=true) (hb:Below W.heap.size W W') :
  ∀(ts:List TypeId) (vs:List Value) (ds:List (DataW H)) (ps:List MemPlace),(ts.all fun t=>P.readableRec t&&decide (t<P.types.size))=true→
  DataW.TrodAll enc P W 0 (fun _=>true) true ts vs ds ps→(∀p∈ps,p.block<W.heap.size)→(∀p∈ps,sp p.block=true)→DataW.TrodAll enc P W' 0 sp true ts vs ds ps
 |[],vs,ds,ps,_,h,_,_=>by
  obtain⟨rfl,rfl,rfl⟩:=trodAll_nil h;exact trodAll_mk0
 |t::ts,vs,ds,ps,hc,h,hlt,hsp=>by
  match vs,ds,h with
  |v::vs,d::ds,h=>
   obtain⟨p,q,h1,h2,rfl⟩:=h;simp only[List.all_cons,Gi,Gx] at hc;exact⟨p,q,WideElems.Trod_stays hl hc.1.1 hc.1.2 h1 (fun x hx=>hb.same (hlt x (by simp[hx]))) (fun x hx=>hsp x (by simp[hx])),
    Jb7 hl hb ts vs ds q (by simpa using hc.2) h2 (fun x hx=>hlt x (by simp[hx])) (fun x hx=>hsp x (by simp[hx])),rfl⟩
theorem liftW {H:Type} {enc:TypeId×Value→H} {bk:DataW H→Nat} {bkA:List (DataW H)→Nat} {fn:Func} {s:ChangeSpec} {conds:List PathCond} {apart fresh handsOn again:Bool} {own:Option Nat} {fid:Nat} {f:FuncId} {ss:List (Bool×List CT)} {tb:TypeId}
  (hcx:cx.fm fid=f) (hprm:Js (Jes P) fn.params.toList=some ss) (hclosed:(fn.params.toList.all fun t=>P.readableRec t&&decide (t<P.types.size))=true) (hl:laidOutB P=true)
  (hvars:s.vars=[]) (hres:fn.resultTypes=#[tb]) (htb:P.underlying tb=some .bool)
  (hspec:∀ds:List (DataW H),ds.length=fn.params.toList.length→s.fn H ds={results:=[.lit (.bool true)],args:=ds})
  (hctr:∀xs,JbD N ss xs→(∀x∈xs,FitV N x)→Ctr P cx own fid xs (.bool true))
  (W:World) (hgn:cx.gn≤W.heap.size) (hG:cx.G W) (base:Nat) (args:Array Value) (ds gs:List (DataW H)) (before:List MemPlace)
  (hval:∀(j:Nat) t v,fn.params[j]?=some t→args[j]?=some v→Value.okWide P W .any base t v)
  (hW:DataW.Whole enc P fn.params.toList s.vars apart W args.toList ds gs before) (hfit:∀d∈ds,Fit N bk bkA d) :
  Calls P f args W fun e W'=>∃v,e=.returned v∧s.post enc P fn apart fresh handsOn again W args v W':=by
 have hlt:=hW.lt
 have hW':=hW
 obtain⟨p,q,hA,hV,rfl,-,-⟩:=hW
 rw[hvars] at hV
 obtain⟨rfl,rfl⟩:=trodVars_none hV
 obtain⟨xs,h1,h2,h3,h4,h5⟩:=args_ok (cx:=cx) (N:=N) (bk:=bk) (bkA:=bkA) (base:=base) fn.params.toList args.toList ds p ss hA (fun j t v hj hv=>hval j t v (by simpa using hj) (by simpa using hv)) hprm hfit
 obtain⟨-,hc⟩:=hctr xs h3 h5
 subst hcx
 refine (hc W (fun _=>False) args (fun b hb=>hb.elim) hgn hG (by simpa using h1.symm) (fun i hi=>by simpa using h2 i hi)).mono fun e W' ⟨v,he,hb,hr⟩=>?_
 subst he
 have hr':=hr.data (fun b hb=>hb.elim)
 have hv:v=.bool true:=by cases hr';rfl
 subst hv
 have hs:=hspec ds h4
 have hlt':∀x∈p,x.block<W.heap.size:=fun x hx=>hlt x (by simpa using hx)
 have res:∀(b:Nat) (sp:Nat→Bool) (hd:Bool),DataW.TrodAll enc P W' b sp hd fn.resultTypes.toList ((Value.bool true).resultList fn.resultTypes.size) (s.fn H (ds++[])).results []:=fun b sp hd=>by
  rw[Gz,hs,hres];exact trodAll_mk1 (shut_bool htb true)
 have back:∀sp:Nat→Bool,(∀x∈p,sp x.block=true)→DataW.TrodAll enc P W' 0 sp true fn.params.toList args.toList (s.fn H (ds++[])).args p:=fun sp hsp=>by
  rw[Gz,hs];exact Jb7 hl hb _ _ _ _ hclosed hA hlt' hsp
 have vars:∀sp:Nat→Bool,DataW.TrodVars enc P W' sp s.vars (s.fn H (ds++[])).vars []:=fun sp=>by
  rw[Gz,hs,hvars];rfl
 refine⟨_,rfl,ds,[],p++[],[],p,[],hW',res _ _ _,back _ (fun x hx=>by simpa using hlt' x hx),vars _,hb.frame _,fun _=>⟨ok_one hres rfl (okWide_bool_mk htb true),(s.fn H (ds++[])).results++(s.fn H (ds++[])).args,(s.fn H (ds++[])).vars,p,?_,fun x hx _=>by simpa using hx⟩⟩
 obtain⟨_,_,_,_,_,hz,hn⟩:=hW'
 refine⟨p,[],?_,vars _,by simp,fun b off hx=>?_,fun ha=>by simpa using hn ha⟩
 ·have:=trodAll_append (back (fun _=>true) (fun _ _=>rfl)) (res 0 (fun _=>true) true)
  simpa using this
 ·rw[hb.frozen (hlt' _ hx)]
  exact hz b off (by simpa using hx)
theorem liftN {H:Type} {enc:TypeId×Value→H} {bk:DataW H→Nat} {bkA:List (DataW H)→Nat} {fn:Func} {s:ChangeSpec} {conds:List PathCond} {apart fresh handsOn again:Bool} {own:Option Nat} {fid:Nat} {f:FuncId} {ss:List (Bool×List CT)} {tb:TypeId}
  (hcx:cx.fm fid=f) (hprm:Js (Jes P) fn.params.toList=some ss) (hclosed:(fn.params.toList.all fun t=>P.readableRec t&&decide (t<P.types.size))=true) (hl:laidOutB P=true)
  (hvars:s.vars=[]) (hres:fn.resultTypes=#[tb]) (htb:P.underlying tb=some .bool)
  (hspec:∀ds:List (DataW H),ds.length=fn.params.toList.length→s.fn H ds={results:=[.lit (.bool true)],args:=ds})
  (hctr:∀xs,JbD N ss xs→Ctr P cx own fid xs (.bool true))
  (W:World) (hgn:cx.gn≤W.heap.size) (hG:cx.G W) (base:Nat) (args:Array Value) (ds gs:List (DataW H)) (before:List MemPlace)
  (hval:∀(j:Nat) t v,fn.params[j]?=some t→args[j]?=some v→Value.okWide P W .any base t v)
  (hW:DataW.Whole enc P fn.params.toList s.vars apart W args.toList ds gs before) (hfit:∀d∈ds,Fit N bk bkA d) :
  Calls P f args W fun e W'=>∃v,e=.returned v∧s.post enc P fn apart fresh handsOn again W args v W':=
 liftW (conds:=conds) (bk:=bk) (bkA:=bkA) hcx hprm hclosed hl hvars hres htb hspec (fun xs h _=>hctr xs h) W hgn hG base args ds gs before hval hW hfit
theorem lift {H:Type} {enc:TypeId×Value→H} {fn:Func} {s:ChangeSpec} {conds:List PathCond} {apart fresh handsOn again:Bool} {own:Option Nat} {fid:Nat} {f:FuncId} {ss:List (Bool×List CT)} {tb:TypeId}
  (hcx:cx.fm fid=f) (hprm:Js (Jes P) fn.params.toList=some ss) (hclosed:(fn.params.toList.all fun t=>P.readableRec t&&decide (t<P.types.size))=true) (hl:laidOutB P=true)
  (hvars:s.vars=[]) (hres:fn.resultTypes=#[tb]) (htb:P.underlying tb=some .bool)
  (hspec:∀ds:List (DataW H),ds.length=fn.params.toList.length→s.fn H ds={results:=[.lit (.bool true)],args:=ds})
  (hctr:∀xs,ArgsV ss xs→Ctr P cx own fid xs (.bool true))
  (W:World) (hgn:cx.gn≤W.heap.size) (hG:cx.G W) (base:Nat) (args:Array Value) (ds gs:List (DataW H)) (before:List MemPlace)
  (hval:∀(j:Nat) t v,fn.params[j]?=some t→args[j]?=some v→Value.okWide P W .any base t v)
  (hW:DataW.Whole enc P fn.params.toList s.vars apart W args.toList ds gs before) :
  Calls P f args W fun e W'=>∃v,e=.returned v∧s.post enc P fn apart fresh handsOn again W args v W':=
 liftN (conds:=conds) (bk:=fun _=>0) (bkA:=fun _=>0) hcx hprm hclosed hl hvars hres htb hspec hctr W hgn hG base args ds gs before hval hW (fun _ _=>.inl (Gn _))
end
end Sg
