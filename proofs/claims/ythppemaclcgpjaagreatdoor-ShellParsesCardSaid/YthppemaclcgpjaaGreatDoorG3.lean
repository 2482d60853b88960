/- A checked abstract run of translated code is sound: for every program and input that pass its checks. A general part, used by the proofs of this seat. -/
import Derived.Lib.AppendZeros
import Derived.Lib.AppendZerosOnto
import Derived.DataReads
import Derived.WideShapes
import Derived.ChangeSlices
import Derived.ChangeSame
import Derived.JoinedOf
import Derived.JoinedAt
import Derived.Carry
import Derived.Test.YthppemaclcgpjaaGreatDoorG2
set_option linter.unusedSimpArgs false
set_option linter.unusedVariables false
set_option linter.constructorNameAsVariable false
set_option linter.defProp false
set_option maxRecDepth 100000
namespace Sg
open Go (IntKind BinOp UnOp)
noncomputable section
abbrev FO:Type:=Option V
abbrev bo {α:Type} (c:Bool) (x y:α):α:=@Bool.rec (fun _=>α) y x c
def oc {α:Type} (x:Option α) (f:α→FO):FO:=@Option.rec α (fun _=>FO) none f x
theorem Jf {α:Type} {x:Option α} {f:α→FO} {r:V} (h:oc x f=some r):∃a,x=some a∧f a=some r:=by
 cases x with
 |none=>cases h
 |some a=>exact⟨a,rfl,h⟩
theorem Jb {c:Bool} {x y:FO} {r:V} (h:bo c x y=some r):(c=true∧x=some r)∨(c=false∧y=some r):=by
 cases c<;>first|exact .inl ⟨rfl,h⟩|exact .inr ⟨rfl,h⟩
theorem JD {a b:Nat} (h:Nat.beq a b=true):a=b:=Nat.eq_of_beq_eq_true h
theorem Jb7 {a b:Nat} (h:a≠b):Nat.beq a b=false:=by rw[Bool.eq_false_iff];exact fun q=>h (JD q)
inductive EL (α:Type) where
 |n
 |c (k:Nat) (v:α) (t:EL α)
section
variable {α:Type}
def elG (l:EL α) (k:Nat):Option α:=@EL.rec α (fun _=>Option α) none (fun j v _ ih=>bo (Nat.beq j k) (some v) ih) l
def elR (l:EL V) (k:Nat):V:=@EL.rec V (fun _=>V) .undef (fun j v _ ih=>bo (Nat.beq j k) v ih) l
def elS (k:Nat) (v:α) (l:EL α):EL α:=@EL.rec α (fun _=>EL α) (.c k v .n) (fun j u t ih=>bo (Nat.beq j k) (.c k v t) (.c j u ih)) l
def elF (p:Nat→Bool) (l:EL α):EL α:=@EL.rec α (fun _=>EL α) .n (fun j u t ih=>bo (p j) ih (.c j u ih)) l
def elM (f:α→α) (l:EL α):EL α:=@EL.rec α (fun _=>EL α) .n (fun j u t ih=>.c j (f u) ih) l
def elK (f:Nat→Nat) (l:EL α):EL α:=@EL.rec α (fun _=>EL α) .n (fun j u t ih=>.c (f j) u ih) l
def JaO (kn:FO) (ks:α→FO) (k:Nat) (l:EL α):FO:=@EL.rec α (fun _=>FO) kn (fun j v _ ih=>bo (Nat.beq j k) (ks v) ih) l
def Jea (ks:V→FO) (k:Nat) (l:EL V):FO:=@EL.rec V (fun _=>FO) (ks .undef) (fun j v _ ih=>bo (Nat.beq j k) (ks v) ih) l
def JM (k:Nat) (v:α) (l:EL α):(EL α→FO)→FO:=@EL.rec α (fun _=>(EL α→FO)→FO) (fun c=>c (.c k v .n)) (fun j u t ih c=>bo (Nat.beq j k) (c (.c k v t)) (ih fun t'=>c (.c j u t'))) l
theorem JE (kn:FO) (ks:α→FO) (k:Nat):∀l:EL α,JaO kn ks k l=@Option.rec α (fun _=>FO) kn ks (elG l k)
 |.n=>rfl
 |.c j v t=>by
  show bo (Nat.beq j k) (ks v) (JaO kn ks k t)=@Option.rec α (fun _=>FO) kn ks (bo (Nat.beq j k) (some v) (elG t k))
  cases Nat.beq j k<;>first|exact JE kn ks k t|rfl
theorem JbA (ks:V→FO) (k:Nat):∀l:EL V,Jea ks k l=ks (elR l k)
 |.n=>rfl
 |.c j v t=>by
  show bo (Nat.beq j k) (ks v) (Jea ks k t)=ks (bo (Nat.beq j k) v (elR t k))
  cases Nat.beq j k<;>first|exact JbA ks k t|rfl
theorem Jp (k:Nat) (v:α):∀(l:EL α) (c:EL α→FO),JM k v l c=c (elS k v l)
 |.n,c=>rfl
 |.c j u t,c=>by
  show bo (Nat.beq j k) (c (.c k v t)) (JM k v t fun t'=>c (.c j u t'))=c (bo (Nat.beq j k) (.c k v t) (.c j u (elS k v t)))
  cases Nat.beq j k<;>first|exact Jp k v t _|rfl
theorem Jcc (k:Nat) (v:α) (l:EL α):elG (.c k v l)=upd (elG l) k (some v):=by
 funext i
 show bo (Nat.beq k i) (some v) (elG l i)=_
 unfold upd;by_cases h:i=k
 ·subst h;rw[Gl rfl,Nat.beq_refl]
 ·rw[Jb7 (Ne.symm h),Gj h]
theorem Jbs (k:Nat) (v:V) (l:EL V):elR (.c k v l)=upd (elR l) k v:=by
 funext i
 show bo (Nat.beq k i) v (elR l i)=_
 unfold upd;by_cases h:i=k
 ·subst h;rw[Gl rfl,Nat.beq_refl]
 ·rw[Jb7 (Ne.symm h),Gj h]
theorem JcS (f:Nat→α) (k:Nat) (u v:α):upd (upd f k u) k v=upd f k v:=by
 funext i;unfold upd;split<;>rfl
theorem Jcf (f:Nat→α) {k j:Nat} (u v:α) (h:k≠j):upd (upd f k u) j v=upd (upd f j v) k u:=by
 funext i;unfold upd;split<;>split<;>first|rfl|omega
theorem JQ (k:Nat) (v:α):∀l:EL α,elG (elS k v l)=upd (elG l) k (some v)
 |.n=>Jcc k v .n
 |.c j u t=>by
  show elG (bo (Nat.beq j k) (.c k v t) (.c j u (elS k v t)))=_
  by_cases h:j=k
  ·subst h;rw[Nat.beq_refl]
   show elG (.c j v t)=_
   rw[Jcc,Jcc,JcS]
  ·rw[Jb7 h]
   show elG (.c j u (elS k v t))=_
   rw[Jcc,Jcc,JQ k v t,Jcf _ _ _ (Ne.symm h)]
theorem Jh9 (k:Nat) (v:V):∀l:EL V,elR (elS k v l)=upd (elR l) k v
 |.n=>Jbs k v .n
 |.c j u t=>by
  show elR (bo (Nat.beq j k) (.c k v t) (.c j u (elS k v t)))=_
  by_cases h:j=k
  ·subst h;rw[Nat.beq_refl]
   show elR (.c j v t)=_
   rw[Jbs,Jbs,JcS]
  ·rw[Jb7 h]
   show elR (.c j u (elS k v t))=_
   rw[Jbs,Jbs,Jh9 k v t,Jcf _ _ _ (Ne.symm h)]
theorem JcM (p:Nat→Bool):∀(l:EL α) (k:Nat),elG (elF p l) k=if p k then none else elG l k
 |.n,k=>by split<;>rfl
 |.c j u t,k=>by
  show elG (bo (p j) (elF p t) (.c j u (elF p t))) k=if p k then none else bo (Nat.beq j k) (some u) (elG t k)
  by_cases h:j=k
  ·subst h;rw[Nat.beq_refl];cases q:p j with
   |true=>show elG (elF p t) j=_;rw[JcM p t j,q];rfl
   |false=>show bo (Nat.beq j j) (some u) _=_;rw[Nat.beq_refl];rfl
  ·rw[Jb7 h];cases q:p j with
   |true=>exact JcM p t k
   |false=>show bo (Nat.beq j k) (some u) (elG (elF p t) k)=_;rw[Jb7 h];exact JcM p t k
theorem JeU (f:α→α):∀(l:EL α) (k:Nat),elG (elM f l) k=(elG l k).map f
 |.n,k=>rfl
 |.c j u t,k=>by
  show bo (Nat.beq j k) (some (f u)) (elG (elM f t) k)=(bo (Nat.beq j k) (some u) (elG t k)).map f
  cases Nat.beq j k<;>first|exact JeU f t k|rfl
theorem JeV (f:V→V) (h:f .undef=.undef):∀(l:EL V) (k:Nat),elR (elM f l) k=f (elR l k)
 |.n,k=>h.symm
 |.c j u t,k=>by
  show bo (Nat.beq j k) (f u) (elR (elM f t) k)=f (bo (Nat.beq j k) u (elR t k))
  cases Nat.beq j k<;>first|exact JeV f h t k|rfl
theorem Jh8 (f:Nat→Nat) (hf:∀x,f (f x)=x):∀(l:EL α) (k:Nat),elG (elK f l) k=elG l (f k)
 |.n,k=>rfl
 |.c j u t,k=>by
  show bo (Nat.beq (f j) k) (some u) (elG (elK f t) k)=bo (Nat.beq j (f k)) (some u) (elG t (f k))
  rw[Jh8 f hf t k];have:Nat.beq (f j) k=Nat.beq j (f k):=by
   rw[Bool.eq_iff_iff];constructor
   ·intro q;rw[←JD q,hf];exact Nat.beq_refl _
   ·intro q;rw[JD q,hf];exact Nat.beq_refl _
  rw[this]
end
abbrev ML:Type:=EL (List V×Bool)
abbrev AL:Type:=EL (Nat×List (List V)×Fz)
def den (ρ:EL V) (μ:ML) (A:AL):St:=⟨elR ρ,elG μ,elG A⟩
section
variable {α β:Type}
def lnF (l:List α):Nat→Nat:=@List.rec α (fun _=>Nat→Nat) (fun n=>n) (fun _ _ ih n=>ih (Nat.succ n)) l
theorem Jfl:∀(l:List α) (n:Nat),lnF l n=n+l.length
 |[],n=>rfl
 |a::l,n=>by
  show lnF l (n+1)=_
  rw[Jfl l (n+1),List.length_cons];omega
def Js (l:List α):Nat:=lnF l 0
theorem Jl (l:List α):Js l=l.length:=by unfold Js;rw[Jfl];omega
def Jam (l:List α):Nat→Option α:=@List.rec α (fun _=>Nat→Option α) (fun _=>none) (fun a _ ih n=>@Nat.rec (fun _=>Option α) (some a) (fun m _=>ih m) n) l
theorem JV:∀(l:List α) (n:Nat),Jam l n=l[n]?
 |[],n=>by simp[Jam]
 |a::l,0=>rfl
 |a::l,n+1=>by show Jam l n=_;rw[JV l n];simp
def JcJ (l:List α):Nat→List α:=@List.rec α (fun _=>Nat→List α) (fun _=>[]) (fun a _ ih n=>@Nat.rec (fun _=>List α) [] (fun m _=>a::ih m) n) l
theorem Jbj:∀(l:List α) (n:Nat),JcJ l n=l.take n
 |[],n=>by simp[JcJ]
 |a::l,0=>rfl
 |a::l,n+1=>by show a::JcJ l n=_;rw[Jbj l n];rfl
def Jcu (l:List α):Nat→List α:=@List.rec α (fun _=>Nat→List α) (fun _=>[]) (fun a t ih n=>@Nat.rec (fun _=>List α) (a::t) (fun m _=>ih m) n) l
theorem Ja8:∀(l:List α) (n:Nat),Jcu l n=l.drop n
 |[],n=>by simp[Jcu]
 |a::l,0=>rfl
 |a::l,n+1=>by show Jcu l n=_;rw[Ja8 l n];rfl
def JbH (l m:List α):List α:=@List.rec α (fun _=>List α) m (fun a _ ih=>a::ih) l
theorem JaH:∀l m:List α,JbH l m=l++m
 |[],m=>rfl
 |a::l,m=>by show a::JbH l m=_;rw[JaH l m];rfl
def Jc6 (l:List α) (v:α):Nat→List α:=@List.rec α (fun _=>Nat→List α) (fun _=>[]) (fun a t ih n=>@Nat.rec (fun _=>List α) (v::t) (fun m _=>a::ih m) n) l
theorem Jbg (v:α):∀(l:List α) (n:Nat),Jc6 l v n=l.set n v
 |[],n=>rfl
 |a::l,0=>rfl
 |a::l,n+1=>by show a::Jc6 l v n=_;rw[Jbg v l n];rfl
def alF (p:α→Bool) (l:List α):Bool:=@List.rec α (fun _=>Bool) true (fun a _ ih=>bo (p a) ih false) l
theorem Jbm (p:α→Bool):∀l:List α,alF p l=l.all p
 |[]=>rfl
 |a::l=>by
  show bo (p a) (alF p l) false=_
  rw[Jbm p l,List.all_cons];cases p a<;>rfl
def mpF (f:α→β) (l:List α):List β:=@List.rec α (fun _=>List β) [] (fun a _ ih=>f a::ih) l
theorem Jfn (f:α→β):∀l:List α,mpF f l=l.map f
 |[]=>rfl
 |a::l=>by show f a::mpF f l=_;rw[Jfn f l];rfl
def inL (l:List Nat) (k:Nat):Bool:=@List.rec Nat (fun _=>Bool) false (fun a _ ih=>bo (Nat.beq a k) true ih) l
theorem Jdo (k:Nat):∀l:List Nat,inL l k=l.contains k
 |[]=>rfl
 |a::l=>by
  show bo (Nat.beq a k) true (inL l k)=_
  rw[List.contains_cons,Jdo k l];by_cases h:a=k
  ·subst h;simp[Nat.beq_refl]
  ·rw[Jb7 h];have h2:(k == a)=false:=by simp;omega
   rw[h2];rfl
end
def Jax (k:IntKind):Nat:=@IntKind.rec (fun _=>Nat) 128 32768 2147483648 9223372036854775808 256 65536 4294967296 18446744073709551616 k
def JhK (k:IntKind):Nat:=@IntKind.rec (fun _=>Nat) 0 1 2 3 4 5 6 7 k
theorem JhL {k k':IntKind} (h:Nat.beq (JhK k) (JhK k')=true):k=k':=by
 cases k<;>cases k'<;>first|rfl|cases h
theorem Jbx {k:IntKind} {n:Nat} (h:n<Jax k):k.wrap (n:Int)=(n:Int):=by
 cases k<;>simp only[Jax] at h<;>simp[IntKind.wrap,IntKind.bits,IntKind.signed]<;>omega
theorem JgY (k:IntKind):Jax k≤2 ^ k.bits:=by cases k<;>decide
theorem JbT (k:IntKind):∃b,Jax k=2 ^ b:=by
 cases k
 ·exact⟨7,rfl⟩
 ·exact⟨15,rfl⟩
 ·exact⟨31,rfl⟩
 ·exact⟨63,rfl⟩
 ·exact⟨8,rfl⟩
 ·exact⟨16,rfl⟩
 ·exact⟨32,rfl⟩
 ·exact⟨64,rfl⟩
def JcT (f:Nat→Nat→FO) (slow:FO) (a b:Int):FO:=@Int.rec (fun _=>FO) (fun n=>@Int.rec (fun _=>FO) (fun m=>f n m) (fun _=>slow) b) (fun _=>slow) a
theorem JbS {f:Nat→Nat→FO} {slow:FO} {a b:Int} (h:∀n m:Nat,a=n→b=m→f n m=slow):JcT f slow a b=slow:=by
 cases a with
 |negSucc _=>rfl
 |ofNat n=>
  cases b with
  |negSucc _=>rfl
  |ofNat m=>exact h n m rfl rfl
def Jdl (k:IntKind) (n:Nat) (slow:FO):FO:=bo (Nat.blt n (Jax k)) (some (.int k (Int.ofNat n))) slow
theorem Ja9 {k:IntKind} {n:Nat} {slow:FO} (h:n<Jax k→some (V.int k (n:Int))=slow):Jdl k n slow=slow:=by
 unfold Jdl;cases q:Nat.blt n (Jax k) with
 |false=>rfl
 |true=>exact h (Nat.le_of_ble_eq_true q)
def JkC (k:IntKind) (a b:Int):FO:=JcT (fun n m=>Jdl k (Nat.add n m) (Jh .add k a b)) (Jh .add k a b) a b
def Jl1 (k:IntKind) (a b:Int):FO:=JcT (fun n m=>bo (Nat.ble m n) (Jdl k (Nat.sub n m) (Jh .sub k a b)) (Jh .sub k a b)) (Jh .sub k a b) a b
def JlG (k:IntKind) (a b:Int):FO:=JcT (fun n m=>Jdl k (Nat.mul n m) (Jh .mul k a b)) (Jh .mul k a b) a b
def JaW (o:BinOp) (g:Nat→Nat→Nat) (k:IntKind) (a b:Int):FO:=JcT (fun n m=>bo (Nat.blt n (Jax k)) (bo (Nat.blt m (Jax k)) (some (.int k (Int.ofNat (g n m)))) (Jh o k a b)) (Jh o k a b)) (Jh o k a b) a b
def Jdg (o:BinOp) (g:Nat→Nat→Bool) (k:IntKind) (a b:Int):FO:=JcT (fun n m=>some (.bool (g n m))) (Jh o k a b) a b
theorem Jf4 (k:IntKind) (a b:Int):JkC k a b=Jh .add k a b:=JbS fun n m ha hb=>Ja9 fun h=>by
 subst ha;subst hb
 show some (V.int k ((n+m:Nat):Int))=some (V.int k (k.wrap ((n:Int)+m)))
 rw[show ((n:Int)+m)=((n+m:Nat):Int) by omega,Jbx (show n+m<Jax k from h)]
theorem JhG (k:IntKind) (a b:Int):Jl1 k a b=Jh .sub k a b:=JbS fun n m ha hb=>by
 subst ha;subst hb;cases q:Nat.ble m n with
 |false=>rfl
 |true=>
  have hle:=Nat.le_of_ble_eq_true q;refine Ja9 fun h=>?_
  show some (V.int k ((n-m:Nat):Int))=some (V.int k (k.wrap ((n:Int)-m)))
  rw[show ((n:Int)-m)=((n-m:Nat):Int) by omega,Jbx (show n-m<Jax k from h)]
theorem Jg3 (k:IntKind) (a b:Int):JlG k a b=Jh .mul k a b:=JbS fun n m ha hb=>Ja9 fun h=>by
 subst ha;subst hb
 show some (V.int k ((n*m:Nat):Int))=some (V.int k (k.wrap ((n:Int)*m)))
 rw[←Int.natCast_mul,Jbx (show n*m<Jax k from h)]
theorem Jcq (o:BinOp) (g:Nat→Nat→Nat) (k:IntKind) (a b:Int) (h:∀n m:Nat,n<Jax k→m<Jax k→some (V.int k ((g n m:Nat):Int))=Jh o k n m):JaW o g k a b=Jh o k a b:=JbS fun n m ha hb=>by
 subst ha;subst hb;cases q:Nat.blt n (Jax k) with
 |false=>rfl
 |true=>
  cases q2:Nat.blt m (Jax k) with
  |false=>rfl
  |true=>exact h n m (Nat.le_of_ble_eq_true q) (Nat.le_of_ble_eq_true q2)
theorem Jcg {k:IntKind} {n:Nat} (h:n<Jax k):(BitVec.ofInt k.bits (n:Int)).toNat=n:=by
 rw[BitVec.ofInt_natCast,BitVec.toNat_ofNat,Nat.mod_eq_of_lt (GC h (JgY k))]
theorem Jf7 (k:IntKind) (a b:Int):JaW .and Nat.land k a b=Jh .and k a b:=Jcq _ _ _ _ _ fun n m hn hm=>by
 show _=some (V.int k (k.wrap ((BitVec.ofInt k.bits (n:Int) &&& BitVec.ofInt k.bits (m:Int)).toNat:Int)))
 rw[BitVec.toNat_and,Jcg hn,Jcg hm];obtain⟨b,hb⟩:=JbT k;rw[Jbx (by rw[hb] at hn hm ⊢;exact Nat.and_lt_two_pow _ hm)];rfl
theorem JjA (k:IntKind) (a b:Int):JaW .or Nat.lor k a b=Jh .or k a b:=Jcq _ _ _ _ _ fun n m hn hm=>by
 show _=some (V.int k (k.wrap ((BitVec.ofInt k.bits (n:Int) ||| BitVec.ofInt k.bits (m:Int)).toNat:Int)))
 rw[BitVec.toNat_or,Jcg hn,Jcg hm];obtain⟨b,hb⟩:=JbT k;rw[Jbx (by rw[hb] at hn hm ⊢;exact Nat.or_lt_two_pow hn hm)];rfl
theorem Jh3 (k:IntKind) (a b:Int):JaW .xor Nat.xor k a b=Jh .xor k a b:=Jcq _ _ _ _ _ fun n m hn hm=>by
 show _=some (V.int k (k.wrap ((BitVec.ofInt k.bits (n:Int) ^^^ BitVec.ofInt k.bits (m:Int)).toNat:Int)))
 rw[BitVec.toNat_xor,Jcg hn,Jcg hm];obtain⟨b,hb⟩:=JbT k;rw[Jbx (by rw[hb] at hn hm ⊢;exact Nat.xor_lt_two_pow hn hm)];rfl
theorem JaK (o:BinOp) (g:Nat→Nat→Bool) (k:IntKind) (a b:Int) (h:∀n m:Nat,some (V.bool (g n m))=Jh o k n m):Jdg o g k a b=Jh o k a b:=JbS fun n m ha hb=>by
 subst ha;subst hb;exact h n m
def neF (n m:Nat):Bool:=bo (Nat.beq n m) false true
def gtF (n m:Nat):Bool:=Nat.blt m n
def geF (n m:Nat):Bool:=Nat.ble m n
theorem JdG (n m:Nat):Nat.beq n m=decide ((n:Int)=m):=by
 rw[Bool.eq_iff_iff,decide_eq_true_iff];constructor
 ·intro h;rw[JD h]
 ·intro h;rw[show n=m by omega];exact Nat.beq_refl m
theorem JdH (n m:Nat):Nat.ble n m=decide ((n:Int)≤m):=by
 rw[Bool.eq_iff_iff,decide_eq_true_iff,Nat.ble_eq];omega
theorem JdI (n m:Nat):Nat.blt n m=decide ((n:Int)<m):=by
 show Nat.ble (n+1) m=_
 rw[Bool.eq_iff_iff,decide_eq_true_iff,Nat.ble_eq];omega
def ibF (o:BinOp) (k:IntKind) (a b:Int):FO:=(@BinOp.rec (fun _=>IntKind→Int→Int→FO) JkC Jl1 JlG (Jh .quo) (Jh .rem) (JaW .and Nat.land) (JaW .or Nat.lor) (JaW .xor Nat.xor) (Jh .shl) (Jh .shr) (Jh .andNot)
 (Jdg .eql Nat.beq) (Jdg .neq neF) (Jdg .lss Nat.blt) (Jdg .leq Nat.ble) (Jdg .gtr gtF) (Jdg .geq geF) o) k a b
theorem Jjd (o:BinOp) (k:IntKind) (a b:Int):ibF o k a b=Jh o k a b:=by
 cases o
 ·exact Jf4 k a b
 ·exact JhG k a b
 ·exact Jg3 k a b
 ·rfl
 ·rfl
 ·exact Jf7 k a b
 ·exact JjA k a b
 ·exact Jh3 k a b
 ·rfl
 ·rfl
 ·rfl
 ·exact JaK _ _ _ _ _ fun n m=>by show some (V.bool (Nat.beq n m))=some (V.bool _);rw[JdG]
 ·exact JaK _ _ _ _ _ fun n m=>by
   show some (V.bool (neF n m))=some (V.bool _)
   unfold neF;rw[JdG];cases decide ((n:Int)=m)<;>rfl
 ·exact JaK _ _ _ _ _ fun n m=>by show some (V.bool (Nat.blt n m))=some (V.bool _);rw[JdI]
 ·exact JaK _ _ _ _ _ fun n m=>by show some (V.bool (Nat.ble n m))=some (V.bool _);rw[JdH]
 ·exact JaK _ _ _ _ _ fun n m=>by show some (V.bool (Nat.blt m n))=some (V.bool _);rw[JdI]
 ·exact JaK _ _ _ _ _ fun n m=>by show some (V.bool (Nat.ble m n))=some (V.bool _);rw[JdH]
def JcF (a:List UInt8):List UInt8→Bool:=@List.rec UInt8 (fun _=>List UInt8→Bool) (fun b=>@List.rec UInt8 (fun _=>Bool) true (fun _ _ _=>false) b)
 (fun x _ ih b=>@List.rec UInt8 (fun _=>Bool) false (fun y t _=>bo (Nat.beq x.toNat y.toNat) (ih t) false) b) a
theorem JcG:∀a b:List UInt8,JcF a b=decide (a=b)
 |[],[]=>by simp[JcF]
 |[],y::b=>by simp[JcF]
 |x::a,[]=>by simp[JcF]
 |x::a,y::b=>by
  show bo (Nat.beq x.toNat y.toNat) (JcF a b) false=_
  rw[JcG a b];by_cases h:x=y
  ·subst h;rw[Nat.beq_refl];simp
  ·have:x.toNat≠y.toNat:=fun q=>h (UInt8.toNat_inj.1 q);rw[Jb7 this];simp[h]
def sbF (o:BinOp) (a b:List UInt8):FO:=@BinOp.rec (fun _=>FO) (bo (Nat.ble (Nat.add (Js a) (Js b)) 4611686018427387904) (some (.str (JbH a b))) none) none none none none none none none none none none
 (some (.bool (JcF a b))) (some (.bool (bo (JcF a b) false true))) none none none none o
theorem Jj8 (o:BinOp) (a b:List UInt8):sbF o a b=Ja1 o a b:=by
 cases o<;>try rfl
 ·show bo (Nat.ble (Nat.add (Js a) (Js b)) 4611686018427387904) (some (V.str (JbH a b))) none=_
  rw[Jl,Jl,JaH];unfold Ja1;by_cases h:a.length+b.length≤4611686018427387904
  ·simp only[Gl h];rw[show Nat.ble (Nat.add a.length b.length) 4611686018427387904=true from by rw[Nat.ble_eq];exact h]
  ·simp only[Gj h];rw[show Nat.ble (Nat.add a.length b.length) 4611686018427387904=false from by rw[Bool.eq_false_iff];exact fun q=>h (Nat.le_of_ble_eq_true q)]
 ·show some (V.bool (JcF a b))=some (V.bool _)
  rw[JcG]
 ·show some (V.bool (bo (JcF a b) false true))=some (V.bool _)
  rw[JcG];cases decide (a=b)<;>rfl
def Jip (o:BinOp) (x y:V):FO:=match x,y with
 |.int k a,.int k' b=>bo (Nat.beq (JhK k) (JhK k')) (ibF o k a b) none
 |.str a,.str b=>sbF o a b
 |_,_=>none
theorem Jgb {o:BinOp} {x y v:V} (h:Jip o x y=some v):Jdf o x y=some v:=by
 unfold Jip at h;split at h
 ·rename_i k a k' b;rcases Jb h with ⟨h1,h2⟩|⟨_,h2⟩
  ·rw[Jjd] at h2
   show (if k=k' then Jh o k a b else none)=some v
   rw[Gl (JhL h1)];exact h2
  ·cases h2
 ·rw[Jj8] at h;exact h
 ·cases h
def JlP (k:IntKind) (a b:Int) (slow:FO):FO:=JcT (fun n m=>bo (Nat.ble m k.bits) (Jdl k (Nat.mul n (Nat.pow 2 m)) slow) slow) slow a b
def JlQ (k:IntKind) (a b:Int) (slow:FO):FO:=JcT (fun n m=>bo (Nat.ble m k.bits) (some (.int k (Int.ofNat (Nat.div n (Nat.pow 2 m))))) slow) slow a b
def shF (o:BinOp) (x y:V):FO:=match x,y with
 |.int k a,.int k' b=>@BinOp.rec (fun _=>FO) none none none none none none none none (JlP k a b (shV .shl x y)) (JlQ k a b (shV .shr x y)) none none none none none none none o
 |_,_=>none
theorem Jkd {o:BinOp} {x y v:V} (h:shF o x y=some v):shV o x y=some v:=by
 unfold shF at h;split at h
 ·rename_i k a k' b;have e1:JlP k a b (shV .shl (.int k a) (.int k' b))=shV .shl (.int k a) (.int k' b):=JbS fun n m ha hb=>by
   subst ha;subst hb;cases q:Nat.ble m k.bits with
   |false=>rfl
   |true=>
    refine Ja9 fun hf=>?_
    show some (V.int k ((n*2 ^ m:Nat):Int))=if (m:Int)<0 then none else some (V.int k (k.wrap ((n:Int)*2 ^ (min (Int.toNat (m:Int)) k.bits))))
    rw[Gj (by omega),Int.toNat_natCast,Gaa (Nat.le_of_ble_eq_true q)];rw[show ((n:Int)*2 ^ m)=((n*2 ^ m:Nat):Int) by rw[Int.natCast_mul,Int.natCast_pow];rfl,Jbx (show n*2 ^ m<Jax k from hf)]
  have e2:JlQ k a b (shV .shr (.int k a) (.int k' b))=shV .shr (.int k a) (.int k' b):=JbS fun n m ha hb=>by
   subst ha;subst hb;cases q:Nat.ble m k.bits with
   |false=>rfl
   |true=>
    show some (V.int k ((n / 2 ^ m:Nat):Int))=if (m:Int)<0 then none else some (V.int k ((n:Int).fdiv (2 ^ (min (Int.toNat (m:Int)) k.bits))))
    rw[Gj (by omega),Int.toNat_natCast,Gaa (Nat.le_of_ble_eq_true q)];rw[show ((2:Int) ^ m)=((2 ^ m:Nat):Int) by rw[Int.natCast_pow];rfl,Int.fdiv_eq_ediv_of_nonneg _ (Int.natCast_nonneg _)]
    rfl
  cases o<;>try (cases h;done)
  ·rw[←e1];exact h
  ·rw[←e2];exact h
 ·cases h
def JeM (c:Cv) (x:V):FO:=match c,x with
 |.int k,.int k' n=>@Int.rec (fun _=>FO) (fun m=>Jdl k m (Ja5 c x)) (fun _=>Ja5 c x) n
 |_,_=>Ja5 c x
theorem JeN {c:Cv} {x v:V} (h:JeM c x=some v):Ja5 c x=some v:=by
 unfold JeM at h;split at h
 ·rename_i k k' n;cases n with
  |negSucc _=>exact h
  |ofNat m=>
   rw[←h];symm;refine Ja9 fun hf=>?_
   show _=some (V.int k (k.wrap ((m:Nat):Int)))
   rw[Jbx hf]
 ·exact h
abbrev KC:Type:=V→ML→AL→FO
abbrev FE:Type:=(Nat→List V→FO)→Nat→EL V→EL V→ML→AL→KC→FO
def axc (e ρ:EL V) (a:Arg) (c:V→FO):FO:=@Arg.rec (fun _=>FO) (fun t=>Jea c t ρ) (fun i=>Jea c i e) (fun v=>c v) (fun k=>c (.func k [])) a
theorem Jj (e ρ:EL V) (a:Arg) (c:V→FO):axc e ρ a c=c (argv (elR e) (elR ρ) a):=by
 cases a
 ·exact JbA c _ ρ
 ·exact JbA c _ e
 ·rfl
 ·rfl
def Jde (e ρ:EL V) (xs:List Arg):(List V→FO)→FO:=@List.rec Arg (fun _=>(List V→FO)→FO) (fun c=>c []) (fun a _ ih c=>axc e ρ a fun v=>ih fun vs=>c (v::vs)) xs
theorem Ja3 (e ρ:EL V):∀(xs:List Arg) (c:List V→FO),Jde e ρ xs c=c (xs.map (argv (elR e) (elR ρ)))
 |[],c=>rfl
 |a::l,c=>by
  show axc e ρ a (fun v=>Jde e ρ l fun vs=>c (v::vs))=_
  rw[Jj,Ja3 e ρ l,Gv]
def Jdc (e ρ:EL V) (x:Option Arg) (c:Option V→FO):FO:=@Option.rec Arg (fun _=>FO) (c none) (fun a=>axc e ρ a fun v=>c (some v)) x
theorem JaJ (e ρ:EL V) (x:Option Arg) (c:Option V→FO):Jdc e ρ x c=c (x.map (argv (elR e) (elR ρ))):=by
 cases x
 ·rfl
 ·exact Jj _ _ _ _
def p1 (g:V→FO) (x:Arg):FE:=fun κ d e ρ μ A k=>axc e ρ x fun v=>oc (g v) fun w=>k w μ A
def p2 (g:V→V→FO) (x y:Arg):FE:=fun κ d e ρ μ A k=>axc e ρ x fun v=>axc e ρ y fun u=>oc (g v u) fun w=>k w μ A
theorem JaT {g:V→FO} {x:Arg} {κ d e ρ μ A k r} (h:p1 g x κ d e ρ μ A k=some r):∃w,g (argv (elR e) (elR ρ) x)=some w∧k w μ A=some r:=by
 unfold p1 at h;rw[Jj] at h;exact Jf h
theorem Jbv {g:V→V→FO} {x y:Arg} {κ d e ρ μ A k r} (h:p2 g x y κ d e ρ μ A k=some r):∃w,g (argv (elR e) (elR ρ) x) (argv (elR e) (elR ρ) y)=some w∧k w μ A=some r:=by
 unfold p2 at h;rw[Jj,Jj] at h;exact Jf h
def Jli (x:Arg):FE:=fun κ d e ρ μ A k=>axc e ρ x fun v=>k v μ A
def Jid (a b:V) (c:V):FO:=match c with
 |.bool t=>some (bo t a b)
 |_=>none
def JiU (c a b:Arg):FE:=fun κ d e ρ μ A k=>axc e ρ c fun c=>axc e ρ a fun a=>axc e ρ b fun b=>oc (Jid a b c) fun w=>k w μ A
def fresh {α:Type} (l:EL α) (d:Nat) (k:FO):FO:=JaO k (fun _=>none) d l
theorem JT {α:Type} {l:EL α} {d:Nat} {k:FO} {r:V} (h:fresh l d k=some r):elG l d=none∧k=some r:=by
 unfold fresh at h;rw[JE] at h;cases q:elG l d with
 |none=>rw[q] at h;exact⟨rfl,h⟩
 |some _=>rw[q] at h;cases h
def Jk8 (x:Arg):FE:=fun κ d e ρ μ A k=>fresh μ d (axc e ρ x fun v=>oc v.cells fun cs=>JM d (cs,false) μ fun μ'=>k (.lref d 0) μ' A)
def JgE (z:List V):FE:=fun κ d e ρ μ A k=>fresh μ d (JM d (z,false) μ fun μ'=>k (.lref d 0) μ' A)
def axp (e ρ:EL V) (ps:List (Nat×Nat×Arg)):(List (Nat×Nat×V)→FO)→FO:=@List.rec _ (fun _=>(List (Nat×Nat×V)→FO)→FO) (fun c=>c []) (fun a _ ih c=>axc e ρ a.2.2 fun v=>ih fun l=>c ((a.1,a.2.1,v)::l)) ps
theorem JeF (e ρ:EL V):∀(ps:List (Nat×Nat×Arg)) (c),axp e ρ ps c=c (ps.map fun p=>(p.1,p.2.1,argv (elR e) (elR ρ) p.2.2))
 |[],c=>rfl
 |a::l,c=>by
  show axc e ρ a.2.2 (fun v=>axp e ρ l fun l'=>c ((a.1,a.2.1,v)::l'))=_
  rw[Jj,JeF e ρ l,Gv]
def axq (e ρ:EL V) (ps:List (Nat×Arg)):(List (Nat×V)→FO)→FO:=@List.rec _ (fun _=>(List (Nat×V)→FO)→FO) (fun c=>c []) (fun a _ ih c=>axc e ρ a.2 fun v=>ih fun l=>c ((a.1,v)::l)) ps
theorem Jdd (e ρ:EL V):∀(ps:List (Nat×Arg)) (c),axq e ρ ps c=c (ps.map fun p=>(p.1,argv (elR e) (elR ρ) p.2))
 |[],c=>rfl
 |a::l,c=>by
  show axc e ρ a.2 (fun v=>axq e ρ l fun l'=>c ((a.1,v)::l'))=_
  rw[Jj,Jdd e ρ l,Gv]
def ovF (xs:List V):List V→Option (List V):=@List.rec V (fun _=>List V→Option (List V)) (fun cs=>some cs) (fun x _ ih cs=>@List.rec V (fun _=>Option (List V)) none (fun _ t _=>@Option.rec _ (fun _=>Option (List V)) none (fun l=>some (x::l)) (ih t)) cs) xs
def saF (xs:List V) (cs:List V):Nat→Option (List V):=@List.rec V (fun _=>Nat→Option (List V)) (fun n=>@Nat.rec (fun _=>Option (List V)) (ovF xs []) (fun _ _=>none) n)
 (fun c t ih n=>@Nat.rec (fun _=>Option (List V)) (ovF xs (c::t)) (fun m _=>@Option.rec _ (fun _=>Option (List V)) none (fun l=>some (c::l)) (ih m)) n) cs
theorem Jdr:∀{xs cs l:List V},ovF xs cs=some l→JG cs 0 xs=some l
 |[],cs,l,h=>by
  change some cs=some l at h;simp only[Ga] at h;simp[JG,h]
 |x::xs,[],l,h=>by cases h
 |x::xs,c::cs,l,h=>by
  change @Option.rec _ (fun _=>Option (List V)) none (fun l=>some (x::l)) (ovF xs cs)=some l at h;cases q:ovF xs cs with
  |none=>rw[q] at h;cases h
  |some l'=>
   rw[q] at h;have:=Jdr q;unfold JG at this ⊢;split at this<;>simp only[Ga,reduceCtorEq] at this;rename_i hl;rw[Gl (by simp at hl ⊢;exact hl)];change some (x::l')=some l at h;rw[←h,←this];simp
theorem JcE {xs:List V}:∀{cs l:List V} {n:Nat},saF xs cs n=some l→JG cs n xs=some l
 |[],l,0,h=>Jdr h
 |[],l,n+1,h=>by cases h
 |c::cs,l,0,h=>Jdr h
 |c::cs,l,n+1,h=>by
  change @Option.rec _ (fun _=>Option (List V)) none (fun l=>some (c::l)) (saF xs cs n)=some l at h;cases q:saF xs cs n with
  |none=>rw[q] at h;cases h
  |some l'=>
   rw[q] at h;have:=JcE q;unfold JG at this ⊢;split at this<;>simp only[Ga,reduceCtorEq] at this;rename_i hl;rw[Gl (by simp only[List.length_cons];omega)];change some (c::l')=some l at h;rw[←h,←this,show n+1+xs.length=(n+xs.length)+1 by omega];simp
def JgA (xs:List V) (n:Nat) (k:FO):FO:=bo (Nat.beq (Js xs) n) k none
theorem JdL {xs:List V} {n:Nat} {k:FO} {r:V} (h:JgA xs n k=some r):xs.length=n∧k=some r:=by
 rcases Jb h with ⟨h1,h2⟩|⟨_,h2⟩
 ·rw[Jl] at h1;exact⟨JD h1,h2⟩
 ·cases h2
def fiF (ps:List (Nat×Nat×V)):List V→(List V→FO)→FO:=@List.rec _ (fun _=>List V→(List V→FO)→FO) (fun cs c=>c cs)
 (fun p _ ih cs c=>oc p.2.2.cells fun xs=>JgA xs p.2.1 (oc (saF xs cs p.1) fun cs'=>ih cs' c)) ps
theorem JeZ:∀{ps:List (Nat×Nat×V)} {cs:List V} {c:List V→FO} {r:V},fiF ps cs c=some r→∃l,Jag cs ps=some l∧c l=some r
 |[],cs,c,r,h=>⟨cs,rfl,h⟩
 |(off,n,v)::ps,cs,c,r,h=>by
  change oc v.cells (fun xs=>JgA xs n (oc (saF xs cs off) fun cs'=>fiF ps cs' c))=some r at h;obtain⟨xs,h1,h2⟩:=Jf h;obtain⟨h3,h4⟩:=JdL h2;obtain⟨cs',h5,h6⟩:=Jf h4;obtain⟨l,h7,h8⟩:=JeZ h6;refine⟨l,?_,h8⟩;unfold Jag;rw[h1,Option.bind_some,Gl h3,JcE h5,Option.bind_some,h7]
def JgF (z:List V) (ps:List (Nat×Nat×Arg)):FE:=fun κ d e ρ μ A k=>axp e ρ ps fun ps=>fiF ps z fun cs=>k (.agg cs) μ A
def Jlh (z n:Nat) (zero:List V) (ps:List (Nat×Arg)):FE:=fun κ d e ρ μ A k=>axq e ρ ps fun ps=>oc (Jr z (List.replicate n zero) ps) fun rows=>k (.slice z rows) μ A
def Jlg (z:Nat):FE:=fun κ d e ρ μ A k=>fresh A d (JM d (z,[],.live) A fun A'=>k (.own d z 0) μ A')
def JbG (d:Nat) (own:Option Nat) (r:V) (μ:ML) (A:AL) (k:KC):FO:=match own with
 |none=>k r μ A
 |some j=>fresh A d (match r with
   |.slice z rows=>JM d (z,rows,.live) A fun A'=>k (.own d z (Js rows)) μ A'
   |.tuple vs=>match Jam vs j with
    |some (.slice z rows)=>JM d (z,rows,.live) A fun A'=>k (.tuple (Jc6 vs (.own d z (Js rows)) j)) μ A'
    |_=>none
   |_=>none)
theorem Jbl {d:Nat} {own:Option Nat} {x:V} {ρ:EL V} {μ:ML} {A:AL} {k:KC} {r:V} (h:JbG d own x μ A k=some r):∃v A',adopt d (den ρ μ A) own x=some (v,den ρ μ A')∧k v μ A'=some r:=by
 unfold JbG at h;cases own with
 |none=>exact⟨x,A,rfl,h⟩
 |some j=>
  obtain⟨h1,h2⟩:=JT h;have hd:(den ρ μ A).A d=none:=h1;split at h2
  ·rename_i z rows;rw[Jp] at h2;refine⟨_,_,?_,h2⟩;simp only[adopt,den,h1,JQ,Jl]
  ·rename_i vs;split at h2<;>try (cases h2;done)
   rename_i z rows q;rw[Jp] at h2;rw[JV] at q;refine⟨_,_,?_,h2⟩;simp only[adopt,den,h1,q,JQ,Jl,Jbg]
  ·cases h2
def Jlf (z n:Nat) (zero:List V) (ps:List (Nat×Arg)):FE:=fun κ d e ρ μ A k=>axq e ρ ps fun ps=>oc (Jr z (List.replicate n zero) ps) fun rows=>JbG d (some 0) (.slice z rows) μ A k
def Jic:V→FO
 |.nslice _=>some (.bool true)
 |.xslice _ _=>some (.bool false)
 |_=>none
def Jlz:V→FO
 |.niface=>some (.bool false)
 |.iface _ _=>some (.bool true)
 |_=>none
def JcQ (A:AL) (s:Nat) (c:AL→FO):FO:=JaO (c A) (fun x=>@Prod.rec _ _ (fun _=>FO) (fun z y=>@Prod.rec _ _ (fun _=>FO) (fun rows f=>JM s (z,rows,@Fz.rec (fun _=>Fz) .frz .frz .dead f) A c) y) x) s A
def Je3 (l:List Nat):AL→(AL→FO)→FO:=@List.rec Nat (fun _=>AL→(AL→FO)→FO) (fun A c=>c A) (fun s _ ih A c=>JcQ A s fun A'=>ih A' c) l
theorem Jba {A:AL} {s:Nat} {c:AL→FO} {r:V} (h:JcQ A s c=some r):∃A',elG A'=Jt (elG A) [s]∧c A'=some r:=by
 unfold JcQ at h;rw[JE] at h;cases q:elG A s with
 |none=>
  rw[q] at h;refine⟨A,?_,h⟩
  show elG A=upd (elG A) s _
  rw[q];funext i;unfold upd;split
  ·rename_i e;rw[e,q];rfl
  ·rfl
 |some x=>
  obtain⟨z,rows,f⟩:=x;rw[q] at h;change JM s (z,rows,@Fz.rec (fun _=>Fz) .frz .frz .dead f) A c=some r at h;rw[Jp] at h;refine⟨_,?_,h⟩;rw[JQ]
  show _=upd (elG A) s _
  rw[q];cases f<;>rfl
theorem JbB:∀{l:List Nat} {A:AL} {c:AL→FO} {r:V},Je3 l A c=some r→∃A',elG A'=Jt (elG A) l∧c A'=some r
 |[],A,c,r,h=>⟨A,rfl,h⟩
 |s::l,A,c,r,h=>by
  change JcQ A s (fun A'=>Je3 l A' c)=some r at h;obtain⟨A1,h1,h2⟩:=Jba h;obtain⟨A2,h3,h4⟩:=JbB h2;refine⟨A2,?_,h4⟩;rw[h3,h1];rfl
def dcF (A:AL) (x:V) (c:V→FO):FO:=match x with
 |.nslice z=>c (.slice z [])
 |.own s z n=>JaO none (fun y=>@Prod.rec _ _ (fun _=>FO) (fun z' y=>@Prod.rec _ _ (fun _=>FO) (fun rows f=>bo (Nat.beq z' z) (bo (Nat.beq (Js rows) n) (@Fz.rec (fun _=>FO) (c (.slice z rows)) (c (.slice z rows)) none f) none) none) y) y) s A
 |x=>bo x.datC (c x) none
theorem JbM {A:AL} {x:V} {c:V→FO} {r:V} (h:dcF A x c=some r):∃y,toDC (elG A) x=some y∧c y=some r:=by
 unfold dcF at h;unfold toDC;split at h
 ·exact⟨_,rfl,h⟩
 ·rename_i s z n;rw[JE] at h;cases q:elG A s with
  |none=>rw[q] at h;cases h
  |some y=>
   obtain⟨z',rows,f⟩:=y;rw[q] at h;change bo (Nat.beq z' z) (bo (Nat.beq (Js rows) n) (@Fz.rec (fun _=>FO) (c (.slice z rows)) (c (.slice z rows)) none f) none) none=some r at h;rcases Jb h with ⟨h1,h2⟩|⟨_,h2⟩<;>try (cases h2;done)
   rcases Jb h2 with ⟨h3,h4⟩|⟨_,h4⟩<;>try (cases h4;done)
   rw[Jl] at h3;cases f with
   |dead=>cases h4
   |live=>exact⟨_,by simp only[q];rw[Gl ⟨JD h1,JD h3,by decide⟩],h4⟩
   |frz=>exact⟨_,by simp only[q];rw[Gl ⟨JD h1,JD h3,by decide⟩],h4⟩
 ·rename_i h1 h2;rcases Jb h with ⟨h3,h4⟩|⟨_,h4⟩<;>try (cases h4;done)
  refine⟨x,?_,h4⟩;split
  ·rename_i z;exact absurd rfl (h1 z)
  ·rename_i s z n;exact absurd rfl (h2 s z n)
  ·rw[Gl h3]
def dcL (A:AL) (l:List V):(List V→FO)→FO:=@List.rec V (fun _=>(List V→FO)→FO) (fun c=>c []) (fun x _ ih c=>dcF A x fun y=>ih fun ys=>c (y::ys)) l
theorem JeQ {A:AL}:∀{l:List V} {c:List V→FO} {r:V},dcL A l c=some r→∃ys,Jn (toDC (elG A)) l=some ys∧c ys=some r
 |[],c,r,h=>⟨[],rfl,h⟩
 |x::l,c,r,h=>by
  change dcF A x (fun y=>dcL A l fun ys=>c (y::ys))=some r at h;obtain⟨y,h1,h2⟩:=JbM h;obtain⟨ys,h3,h4⟩:=JeQ h2;exact⟨y::ys,by simp only[Jn,h1,h3,Option.bind_some],h4⟩
def dF (A:AL) (x:V) (c:V→FO):FO:=match x with
 |.agg cs=>dcL A cs fun ys=>c (.agg ys)
 |x=>dcF A x c
theorem Jh7 {A:AL} {x:V} {c:V→FO} {r:V} (h:dF A x c=some r):∃y,toD (elG A) x=some y∧c y=some r:=by
 unfold dF at h;split at h
 ·obtain⟨ys,h1,h2⟩:=JeQ h;exact⟨_,by simp only[toD,h1,Option.map_some],h2⟩
 ·rename_i hx;obtain⟨y,h1,h2⟩:=JbM h;refine⟨y,?_,h2⟩;unfold toD;split
  ·rename_i cs;exact absurd rfl (hx cs)
  ·exact h1
def dL (A:AL) (l:List V):(List V→FO)→FO:=@List.rec V (fun _=>(List V→FO)→FO) (fun c=>c []) (fun x _ ih c=>dF A x fun y=>ih fun ys=>c (y::ys)) l
theorem JdK {A:AL}:∀{l:List V} {c:List V→FO} {r:V},dL A l c=some r→∃ys,Jn (toD (elG A)) l=some ys∧c ys=some r
 |[],c,r,h=>⟨[],rfl,h⟩
 |x::l,c,r,h=>by
  change dF A x (fun y=>dL A l fun ys=>c (y::ys))=some r at h;obtain⟨y,h1,h2⟩:=Jh7 h;obtain⟨ys,h3,h4⟩:=JdK h2;exact⟨y::ys,by simp only[Jn,h1,h3,Option.bind_some],h4⟩
def Jla (s:Nat) (x:Arg):FE:=fun κ d e ρ μ A k=>axc e ρ x fun v=>match v with
 |.own s' z n=>bo (Nat.beq s' s) (dcF A (.own s z n) fun y=>JcQ A s fun A'=>k y μ A') none
 |_=>none
def ldF (cs:List V) (off:Nat) (n:Option Nat):FO:=@Option.rec _ (fun _=>FO) (Jam cs off) (fun n=>bo (Nat.ble (Nat.add off n) (Js cs)) (some (V.agg (JcJ (Jcu cs off) n))) none) n
theorem Jcy (cs:List V) (off:Nat) (n:Option Nat):ldF cs off n=J5 cs off n:=by
 cases n with
 |none=>exact JV cs off
 |some n=>
  show bo (Nat.ble (Nat.add off n) (Js cs)) (some (V.agg (JcJ (Jcu cs off) n))) none=if off+n≤cs.length then some (.agg ((cs.drop off).take n)) else none
  rw[Jl,Jbj,Ja8];by_cases h:off+n≤cs.length
  ·rw[Gl h,show Nat.ble (Nat.add off n) cs.length=true from by rw[Nat.ble_eq];exact h]
  ·rw[Gj h,show Nat.ble (Nat.add off n) cs.length=false from by rw[Bool.eq_false_iff];exact fun q=>h (Nat.le_of_ble_eq_true q)]
def l_v (n:Option Nat) (s:Nat) (p:V) (μ:ML) (c:V→FO):FO:=match p with
 |.lref s' off=>bo (Nat.beq s' s) (JaO none (fun m=>@Prod.rec _ _ (fun _=>FO) (fun cs _=>oc (ldF cs off n) c) m) s μ) none
 |_=>none
theorem Jfj {n:Option Nat} {s:Nat} {p:V} {ρ:EL V} {μ:ML} {A:AL} {c:V→FO} {r:V} (h:l_v n s p μ c=some r):∃v,Jz (den ρ μ A) (.v s) n p=some v∧c v=some r:=by
 unfold l_v at h;split at h<;>try (cases h;done)
 rename_i s' off;rcases Jb h with ⟨h1,h2⟩|⟨_,h2⟩<;>try (cases h2;done)
 rw[JE] at h2;cases q:elG μ s with
 |none=>rw[q] at h2;cases h2
 |some m=>
  obtain⟨cs,b⟩:=m;rw[q] at h2;obtain⟨v,h3,h4⟩:=Jf h2;rw[Jcy] at h3;refine⟨v,?_,h4⟩
  show (if s'=s then (elG μ s).bind _ else none)=_
  rw[Gl (JD h1),q,Option.bind_some];exact h3
def l_e (n:Option Nat) (s i off m:Nat) (A:AL) (c:V→FO):FO:=
 JaO none (fun y=>@Prod.rec _ _ (fun _=>FO) (fun _ y=>@Prod.rec _ _ (fun _=>FO) (fun rows f=>bo (Nat.beq (Js rows) m) (@Fz.rec (fun _=>FO) (oc (Jam rows i) fun r=>oc (ldF r off n) c) (oc (Jam rows i) fun r=>oc (ldF r off n) c) none f) none) y) y) s A
theorem Jfi {n:Option Nat} {s i off m:Nat} {A:AL} {c:V→FO} {r:V} (h:l_e n s i off m A c=some r) :
  ∃v,(match elG A s with|some (_,rows,f)=>if rows.length=m∧f≠.dead then (rows[i]?).bind fun r=>J5 r off n else none|none=>none)=some v∧c v=some r:=by
 unfold l_e at h
 rw[JE] at h
 cases q:elG A s with
 |none=>rw[q] at h;cases h
 |some y=>
  obtain⟨z,rows,f⟩:=y
  rw[q] at h
  change bo (Nat.beq (Js rows) m) (@Fz.rec (fun _=>FO) (oc (Jam rows i) fun r=>oc (ldF r off n) c) (oc (Jam rows i) fun r=>oc (ldF r off n) c) none f) none=some r at h
  rcases Jb h with ⟨h1,h2⟩|⟨_,h2⟩<;>try (cases h2;done)
  rw[Jl] at h1
  have key:oc (Jam rows i) (fun r=>oc (ldF r off n) c)=some r→f≠.dead→∃v,(if rows.length=m∧f≠.dead then (rows[i]?).bind fun r=>J5 r off n else none)=some v∧c v=some r:=fun h3 hf=>by
   obtain⟨r0,h4,h5⟩:=Jf h3;obtain⟨v,h6,h7⟩:=Jf h5;rw[JV] at h4;rw[Jcy] at h6;exact⟨v,by rw[Gl ⟨JD h1,hf⟩,h4,Option.bind_some,h6],h7⟩
  cases f with
  |dead=>cases h2
  |live=>exact key h2 (by decide)
  |frz=>exact key h2 (by decide)
def Je7 (n:Option Nat) (s:Nat) (p:V) (A:AL) (c:V→FO):FO:=match p with
 |.eref s' i off m=>bo (Nat.beq s' s) (l_e n s i off m A c) none
 |_=>none
def ldX (n:Option Nat) (p:V) (A:AL) (c:V→FO):FO:=match p with
 |.eref s' i off m=>l_e n s' i off m A c
 |_=>none
def ldC (n:Option Nat) (p:V) (c:V→FO):FO:=match p with
 |.cptr cs off=>oc (ldF cs off n) c
 |_=>none
def JiT (l:Loc) (n:Option Nat) (p:Arg):FE:=fun κ d e ρ μ A k=>axc e ρ p fun p=>@Loc.rec (fun _=>FO)
 (fun s=>l_v n s p μ fun v=>k v μ A) (fun s=>Je7 n s p A fun v=>k v μ A) (ldC n p fun v=>k v μ A) (ldX n p A fun v=>k v μ A) l
def fzstE (n s i off m:Nat) (xs:List V) (A:AL) (c:AL→FO):FO:=bo (alF V.datC xs)
 (JaO none (fun y=>@Prod.rec _ _ (fun _=>FO) (fun z y=>@Prod.rec _ _ (fun _=>FO) (fun rows f=>@Fz.rec (fun _=>FO)
  (eqLnR rows m (oc (Jam rows i) fun r=>oc (saF xs r off) fun r'=>JM s (z,Jc6 rows r' i,.live) A c)) none none f) y) y) s A) none
where eqLnR (rows:List (List V)) (m:Nat) (k:FO):FO:=bo (Nat.beq (Js rows) m) k none
theorem JfO {n s i off m:Nat} {xs:List V} {ρ:EL V} {μ:ML} {A:AL} {c:AL→FO} {r:V} (h:fzstE n s i off m xs A c=some r):∃A',xs.all V.datC=true∧
  (match elG A s with
    |some (z,rows,.live)=>if rows.length=m then (rows[i]?).bind fun r=>(JG r off xs).bind fun r'=>
      some {den ρ μ A with A:=upd (elG A) s (some (z,rows.set i r',.live))} else none
    |_=>none)=some (den ρ μ A')∧c A'=some r:=by
 unfold fzstE at h
 rcases Jb h with ⟨h1,h2⟩|⟨_,h2⟩<;>try (cases h2;done)
 rw[Jbm] at h1
 rw[JE] at h2
 cases q:elG A s with
 |none=>rw[q] at h2;cases h2
 |some y=>
  obtain⟨z,rows,f⟩:=y
  rw[q] at h2
  cases f with
  |frz=>cases h2
  |dead=>cases h2
  |live=>
   change bo (Nat.beq (Js rows) m) (oc (Jam rows i) fun r=>oc (saF xs r off) fun r'=>JM s (z,Jc6 rows r' i,.live) A c) none=some r at h2
   rcases Jb h2 with ⟨h3,h4⟩|⟨_,h4⟩<;>try (cases h4;done)
   rw[Jl] at h3
   obtain⟨r0,h5,h6⟩:=Jf h4
   obtain⟨r',h7,h8⟩:=Jf h6
   rw[JV] at h5
   rw[Jp,Jbg] at h8
   refine⟨_,h1,?_,h8⟩
   simp only
   rw[Gl (JD h3),h5,Option.bind_some,JcE h7,Option.bind_some]
   simp only[den,JQ]
def JgH (l:Loc) (n:Nat) (p x:Arg):FE:=fun κ d e ρ μ A k=>axc e ρ p fun p=>axc e ρ x fun x=>oc x.cells fun xs=>JgA xs n (@Loc.rec (fun _=>FO)
 (fun s=>match p with
  |.lref s' off=>bo (Nat.beq s' s) (JaO none (fun m=>@Prod.rec _ _ (fun _=>FO) (fun cs b=>bo b none (oc (saF xs cs off) fun cs'=>JM s (cs',false) μ fun μ'=>k .undef μ' A)) m) s μ) none
  |_=>none)
 (fun s=>match p with
  |.eref s' i off m=>bo (Nat.beq s' s) (fzstE n s i off m xs A fun A'=>k .undef μ A') none
  |_=>none)
 none
 (match p with
  |.eref s i off m=>fzstE n s i off m xs A fun A'=>k .undef μ A'
  |_=>none) l)
def JkY (ne:Bool) (sh:List Sh) (x y:V):FO:=match x,y with
 |.agg xs,.agg ys=>(JbN sh xs ys).bind fun b=>some (.bool (ne ^^ b))
 |_,_=>none
def JkZ (ne:Bool) (x y:V):FO:=match x,y with
 |.bool a,.bool b=>some (.bool (ne ^^ (a == b)))
 |_,_=>none
def mmV (mx:Bool) (x y:V):FO:=match x,y with
 |.int k a,.int k' b=>if k=k' then some (.int k (if (if mx then a<b else b<a) then b else a)) else none
 |_,_=>none
def f_fn (f:Nat) (cap:List Arg) (sites:List Nat):FE:=fun κ d e ρ μ A k=>if sites.all (JK (elG μ)) then
 Jde e ρ cap fun cap=>oc (Jn (capV (elG μ) sites) cap) fun cs=>frmL sites μ fun μ'=>k (.func f cs) μ' A else none
where
 frmL (l:List Nat):ML→(ML→FO)→FO:=@List.rec Nat (fun _=>ML→(ML→FO)→FO) (fun μ c=>c μ) (fun s _ ih μ c=>JaO (ih μ c) (fun m=>@Prod.rec _ _ (fun _=>FO) (fun cs _=>JM s (cs,true) μ fun μ'=>ih μ' c) m) s μ) l
theorem Jcx:∀{l:List Nat} {μ:ML} {c:ML→FO} {r:V},f_fn.frmL l μ c=some r→∃μ',elG μ'=Jah (elG μ) l∧c μ'=some r
 |[],μ,c,r,h=>⟨μ,rfl,h⟩
 |s::l,μ,c,r,h=>by
  change JaO (f_fn.frmL l μ c) (fun m=>@Prod.rec _ _ (fun _=>FO) (fun cs _=>JM s (cs,true) μ fun μ'=>f_fn.frmL l μ' c) m) s μ=some r at h;rw[JE] at h;cases q:elG μ s with
  |none=>
   rw[q] at h;obtain⟨μ',h1,h2⟩:=Jcx (l:=l) (μ:=μ) h;refine⟨μ',?_,h2⟩;rw[h1]
   show _=Jah (upd (elG μ) s _) l
   rw[q]
   congr 1
   funext i;unfold upd;split
   ·rename_i e;rw[e,q];rfl
   ·rfl
  |some m=>
   obtain⟨cs,b⟩:=m;rw[q] at h;change JM s (cs,true) μ (fun μ'=>f_fn.frmL l μ' c)=some r at h;rw[Jp] at h;obtain⟨μ',h1,h2⟩:=Jcx (l:=l) h;refine⟨μ',?_,h2⟩;rw[h1,JQ]
   show _=Jah (upd (elG μ) s _) l
   rw[q];rfl
def bdF (x:Option V) (dflt:Nat) (c:Nat→FO):FO:=@Option.rec _ (fun _=>FO) (c dflt) (fun v=>match v with
 |.int _ n=>@Int.rec (fun _=>FO) (fun m=>c m) (fun _=>none) n
 |_=>none) x
theorem Jcp {x:Option V} {dflt:Nat} {c:Nat→FO} {r:V} (h:bdF x dflt c=some r):∃n,bound x dflt=some n∧c n=some r:=by
 cases x with
 |none=>exact⟨dflt,rfl,h⟩
 |some v=>
  cases v<;>try (cases h;done)
  rename_i k n;cases n with
  |negSucc _=>cases h
  |ofNat m=>exact⟨m,rfl,h⟩
def slF (st:Bool) (z:Nat) (x:V) (lo hi:Option V):FO:=match st,x with
 |true,.str s=>bdF hi (Js s) fun h=>bdF lo 0 fun l=>bo (Nat.ble l h) (bo (Nat.ble h (Js s)) (some (.str (Jcu (JcJ s h) l))) none) none
 |false,.slice z' rows=>bdF hi (Js rows) fun h=>bdF lo 0 fun l=>bo (Nat.beq z' z) (bo (Nat.ble l h) (bo (Nat.ble h (Js rows)) (some (.slice z (Jcu (JcJ rows h) l))) none) none) none
 |_,_=>none
theorem JdB {st:Bool} {z:Nat} {x:V} {lo hi:Option V} {v:V} (h:slF st z x lo hi=some v):slV st z x lo hi=some v:=by
 unfold slF at h;split at h
 ·rename_i s;rw[Jl] at h;obtain⟨hh,h1,h2⟩:=Jcp h;obtain⟨l,h3,h4⟩:=Jcp h2;rcases Jb h4 with ⟨h5,h6⟩|⟨_,h6⟩<;>try (cases h6;done)
  rcases Jb h6 with ⟨h7,h8⟩|⟨_,h8⟩<;>try (cases h8;done)
  rw[Ja8,Jbj] at h8
  show (bound hi s.length).bind _=_
  rw[h1,Option.bind_some,h3,Option.bind_some,Gl ⟨Nat.le_of_ble_eq_true h5,Nat.le_of_ble_eq_true h7⟩,h8]
 ·rename_i z' rows;rw[Jl] at h;obtain⟨hh,h1,h2⟩:=Jcp h;obtain⟨l,h3,h4⟩:=Jcp h2;rcases Jb h4 with ⟨h9,h4⟩|⟨_,h6⟩<;>try (cases h6;done)
  rcases Jb h4 with ⟨h5,h6⟩|⟨_,h6⟩<;>try (cases h6;done)
  rcases Jb h6 with ⟨h7,h8⟩|⟨_,h8⟩<;>try (cases h8;done)
  rw[Ja8,Jbj] at h8
  show (bound hi rows.length).bind _=_
  rw[h1,Option.bind_some,h3,Option.bind_some,Gl ⟨JD h9,Nat.le_of_ble_eq_true h5,Nat.le_of_ble_eq_true h7⟩,h8]
 ·cases h
def Jmp (st:Bool) (z:Nat) (x:Arg) (lo hi:Option Arg):FE:=fun κ d e ρ μ A k=>axc e ρ x fun x=>Jdc e ρ lo fun lo=>Jdc e ρ hi fun hi=>oc (slF st z x lo hi) fun v=>k v μ A
def Ji6 (z:Nat) (x i:V):FO:=match x,i with
 |.slice z' rows,.int _ n=>bo (Nat.beq z' z) (@Int.rec (fun _=>FO) (fun m=>oc (Jam rows m) fun r=>some (.cptr r 0)) (fun _=>none) n) none
 |.own s z' m,.int _ n=>bo (Nat.beq z' z) (@Int.rec (fun _=>FO) (fun j=>bo (Nat.blt j m) (some (.eref s j 0 m)) none) (fun _=>none) n) none
 |_,_=>none
theorem JgR {z:Nat} {x i v:V} (h:Ji6 z x i=some v):Jbc z x i=some v:=by
 unfold Ji6 at h;split at h
 ·rename_i z' rows k n;rcases Jb h with ⟨h1,h2⟩|⟨_,h2⟩<;>try (cases h2;done)
  cases n with
  |negSucc _=>cases h2
  |ofNat m=>
   obtain⟨r,h3,h4⟩:=Jf h2;rw[JV] at h3
   show (if z'=z∧(0:Int)≤(m:Int) then (rows[(m:Int).toNat]?).map fun r=>V.cptr r 0 else none)=_
   rw[Gl ⟨JD h1,by omega⟩,Int.toNat_natCast,h3];exact h4
 ·rename_i s z' m k n;rcases Jb h with ⟨h1,h2⟩|⟨_,h2⟩<;>try (cases h2;done)
  cases n with
  |negSucc _=>cases h2
  |ofNat j=>
   rcases Jb h2 with ⟨h3,h4⟩|⟨_,h4⟩<;>try (cases h4;done)
   have:=Nat.le_of_ble_eq_true h3
   show (if z'=z∧(0:Int)≤(j:Int)∧(j:Int)<m then some (V.eref s (j:Int).toNat 0 m) else none)=_
   rw[Gl ⟨JD h1,by omega,by omega⟩,Int.toNat_natCast];exact h4
 ·cases h
def Jdm (x i:V):FO:=match x,i with
 |.str s,.int _ n=>@Int.rec (fun _=>FO) (fun m=>oc (Jam s m) fun b=>some (.int .u8 (Int.ofNat b.toNat))) (fun _=>none) n
 |_,_=>none
theorem JgT {x i v:V} (h:Jdm x i=some v):Jeg x i=some v:=by
 unfold Jdm at h;split at h
 ·rename_i s k n;cases n with
  |negSucc _=>cases h
  |ofNat m=>
   obtain⟨b,h3,h4⟩:=Jf h;rw[JV] at h3
   show (if (0:Int)≤(m:Int) then (s[(m:Int).toNat]?).map fun b=>V.int .u8 b.toNat else none)=_
   rw[Gl (by omega),Int.toNat_natCast,h3];exact h4
 ·cases h
def JiO (i:Nat) (x:V):FO:=match x with
 |.tuple vs=>Jam vs i
 |_=>none
theorem JgD {i:Nat} {x v:V} (h:JiO i x=some v):JeY i x=some v:=by
 unfold JiO at h;split at h
 ·rw[JV] at h;exact h
 ·cases h
def Jjl (st:Bool) (x:V):FO:=match st,x with
 |false,.slice _ rows=>some (.int .i64 (Int.ofNat (Js rows)))
 |true,.str s=>some (.int .i64 (Int.ofNat (Js s)))
 |false,.own _ _ n=>some (.int .i64 (Int.ofNat n))
 |_,_=>none
theorem JgX {st:Bool} {x v:V} (h:Jjl st x=some v):Jdp st x=some v:=by
 unfold Jjl at h;split at h
 ·rw[Jl] at h;exact h
 ·rw[Jl] at h;exact h
 ·exact h
 ·cases h
def JdO (n:Nat) (k:FO):FO:=bo (Nat.ble n lim) k none
theorem JcV {n:Nat} {k:FO} {r:V} (h:JdO n k=some r):n≤lim∧k=some r:=by
 rcases Jb h with ⟨h1,h2⟩|⟨_,h2⟩
 ·exact⟨Nat.le_of_ble_eq_true h1,h2⟩
 ·cases h2
def roF (z:Nat) (x:V) (c:List (List V)→FO):FO:=match x with
 |.slice z' rows=>bo (Nat.beq z' z) (c rows) none
 |.str s=>bo (Nat.beq z 1) (c (mpF (fun b=>[.int .u8 (Int.ofNat b.toNat)]) s)) none
 |x=>oc (V.rowsOf z x) c
theorem JfG {z:Nat} {x:V} {c:List (List V)→FO} {r:V} (h:roF z x c=some r):∃ys,V.rowsOf z x=some ys∧c ys=some r:=by
 unfold roF at h;split at h
 ·rcases Jb h with ⟨h1,h2⟩|⟨_,h2⟩<;>try (cases h2;done)
  exact⟨_,Gl (JD h1),h2⟩
 ·rcases Jb h with ⟨h1,h2⟩|⟨_,h2⟩<;>try (cases h2;done)
  rw[Jfn] at h2;exact⟨_,Gl (JD h1),h2⟩
 ·exact Jf h
def apF (s z n:Nat) (y:V) (A:AL) (c:V→AL→FO):FO:=
 JaO none (fun w=>@Prod.rec _ _ (fun _=>FO) (fun z' w=>@Prod.rec _ _ (fun _=>FO) (fun rows f=>@Fz.rec (fun _=>FO)
  (bo (Nat.beq z' z) (bo (Nat.beq (Js rows) n) (roF z y fun ys=>JdO (Nat.add n (Js ys)) (JM s (z,JbH rows ys,.live) A fun A'=>c (.own s z (Nat.add n (Js ys))) A')) none) none) none none f) w) w) s A
theorem JeC {s z n:Nat} {y:V} {ρ:EL V} {μ:ML} {A:AL} {c:V→AL→FO} {r:V} (h:apF s z n y A c=some r):∃v A',J7 (den ρ μ A) s z (.own s z n) y=some (v,den ρ μ A')∧c v A'=some r:=by
 unfold apF at h;rw[JE] at h;cases q:elG A s with
 |none=>rw[q] at h;cases h
 |some w=>
  obtain⟨z',rows,f⟩:=w;rw[q] at h;cases f with
  |frz=>cases h
  |dead=>cases h
  |live=>
   change bo (Nat.beq z' z) (bo (Nat.beq (Js rows) n) (roF z y fun ys=>JdO (Nat.add n (Js ys)) (JM s (z,JbH rows ys,.live) A fun A'=>c (.own s z (Nat.add n (Js ys))) A')) none) none=some r at h;rcases Jb h with ⟨h1,h2⟩|⟨_,h2⟩<;>try (cases h2;done)
   rcases Jb h2 with ⟨h3,h4⟩|⟨_,h4⟩<;>try (cases h4;done)
   rw[Jl] at h3;obtain⟨ys,h5,h6⟩:=JfG h4;obtain⟨h7,h8⟩:=JcV h6;rw[Jp,Jl,JaH] at h8;rw[Jl] at h7;have hz:=JD h1;have hn:=JD h3;subst hz;subst hn;refine⟨_,_,?_,h8⟩
   show (if s=s∧z'=z' then (match elG A s with
    |some (z'',rows,.live)=>if z''=z'∧rows.length=_ then (V.rowsOf z' y).bind _ else none
    |_=>none) else none)=_
   rw[Gl ⟨rfl,rfl⟩];simp only[q,and_self,Gx,h5,Option.bind_some];rw[Gl (show rows.length+ys.length≤lim from h7)];simp only[den,JQ];rfl
def apV (s z:Nat) (x y:V) (A:AL) (c:V→AL→FO):FO:=match x with
 |.own s' z' n=>bo (Nat.beq s' s) (bo (Nat.beq z' z) (apF s z n y A c) none) none
 |_=>none
theorem JeD {s z:Nat} {x y:V} {ρ:EL V} {μ:ML} {A:AL} {c:V→AL→FO} {r:V} (h:apV s z x y A c=some r):∃v A',J7 (den ρ μ A) s z x y=some (v,den ρ μ A')∧c v A'=some r:=by
 unfold apV at h;split at h<;>try (cases h;done)
 rcases Jb h with ⟨h1,h2⟩|⟨_,h2⟩<;>try (cases h2;done)
 rcases Jb h2 with ⟨h3,h4⟩|⟨_,h4⟩<;>try (cases h4;done)
 rw[JD h1,JD h3];exact JeC h4
def Jk5 (s z:Nat) (x y:Arg):FE:=fun κ d e ρ μ A k=>axc e ρ x fun x=>axc e ρ y fun y=>match x with
 |.nslice z'=>bo (Nat.beq z' z) (fresh A s (roF z y fun ys=>JdO (Js ys) (JM s (z,ys,.live) A fun A'=>k (.own s z (Js ys)) μ A'))) none
 |x=>apV s z x y A fun v A'=>k v μ A'
def Jk4 (s z:Nat) (x y:Arg):FE:=fun κ d e ρ μ A k=>axc e ρ x fun x=>axc e ρ y fun y=>apV s z x y A fun v A'=>dcF A' v fun w=>JcQ A' s fun A''=>k w μ A''
def Jlb (f s z:Nat) (x i y:Arg):FE:=fun κ d e ρ μ A k=>axc e ρ x fun x=>axc e ρ i fun i=>axc e ρ y fun y=>match x,i,y with
 |.own s' z' n,.int .i64 j,.slice z'' ys=>if s'=s∧z'=z∧z''=z then match elG A s with
   |some (z3,rows,.live)=>if z3=z∧rows.length=n∧0≤j∧j≤n∧rows.length+ys.length≤lim then
     JM s (z,rows.take j.toNat++(ys++rows.drop j.toNat),.live) A fun A'=>k (.own s z (rows.length+ys.length)) μ A'
    else none
   |_=>none
  else none
 |_,_,_=>none
def Jk9 (f s z:Nat) (x i j:Arg):FE:=fun κ d e ρ μ A k=>axc e ρ x fun x=>axc e ρ i fun i=>axc e ρ j fun j=>match x,i,j with
 |.own s' z' n,.int .i64 a,.int .i64 m=>if s'=s∧z'=z then match elG A s,elG A d with
   |some (z3,rows,.live),none=>if z3=z∧rows.length=n∧0≤a∧a≤m∧m≤n∧n≤lim then
     JM s (z,[],.dead) A fun A'=>JM d (z,rows.take a.toNat++rows.drop m.toNat,.live) A' fun A''=>k (.own d z (rows.take a.toNat++rows.drop m.toNat).length) μ A''
    else none
   |_,_=>none
  else none
 |_,_,_=>none
def caF (e ρ:EL V) (c:Cal) (k:Nat→List V→FO):FO:=@Cal.rec (fun _=>FO) (fun f=>k f []) (fun x=>axc e ρ x fun v=>match v with
 |.func f cap=>k f cap
 |_=>none) c
theorem Jir {e ρ:EL V} {c:Cal} {k:Nat→List V→FO} {r:V} (h:caF e ρ c k=some r):∃f cap,callee (elR e) (elR ρ) c=some (f,cap)∧k f cap=some r:=by
 cases c with
 |k f=>exact⟨f,[],rfl,h⟩
 |v x=>
  change axc e ρ x (fun v=>match v with|.func f cap=>k f cap|_=>none)=some r at h;rw[Jj] at h;split at h<;>try (cases h;done)
  rename_i f cap q;exact⟨f,cap,by simp only[callee,q],h⟩
def Jd8 (x:V):Bool:=match x with
 |.agg cs=>alF V.datC cs
 |x=>x.datC
theorem Jct (x:V):Jd8 x=x.dat:=by
 cases x<;>first|rfl|exact Jbm _ _
def Jdh (f:Cal) (cv:Cvm) (own:Option Nat) (xs:List Arg):FE:=fun κ d e ρ μ A k=>caF e ρ f fun g cap=>Jde e ρ xs fun vs=>@Cvm.rec (fun _=>FO)
 (bo (alF Jd8 vs) (oc (κ g (JbH vs cap)) fun r=>JbG d own r μ A k) none)
 (dL A vs fun bs=>oc (κ g (JbH bs cap)) fun r=>bo r.scalar (k r μ A) none)
 (dL A vs fun bs=>oc (κ g (JbH bs cap)) fun r=>Je3 (vs.flatMap Je) A fun A'=>JbG d own r μ A' k) cv
def Jib:V→FO
 |.lref s o=>some (.lref s o)
 |.eref s i o n=>some (.eref s i o n)
 |.cptr cs o=>some (.cptr cs o)
 |_=>none
def Jld (s v n:Nat) (p:Arg):FE:=fun κ d e ρ μ A k=>axc e ρ p fun p=>l_v (some n) v p μ fun x=>if (Je x).all (· == s) then dF A x fun y=>JcQ A s fun A'=>k y μ A' else none
def haC (x:V) (A:AL) (c:V→AL→FO):FO:=match x with
 |.own s z n=>JaO none (fun w=>@Prod.rec _ _ (fun _=>FO) (fun z' w=>@Prod.rec _ _ (fun _=>FO) (fun rows f=>@Fz.rec (fun _=>FO)
   (bo (Nat.beq z' z) (bo (Nat.beq (Js rows) n) (JM s (z,[],.dead) A fun A'=>c (.tuple [.slice z rows]) A') none) none) none none f) w) w) s A
 |.nslice z=>c (.tuple [.slice z []]) A
 |x=>bo x.datC (c x A) none
theorem JiZ {x:V} {A:AL} {c:V→AL→FO} {r:V} (h:haC x A c=some r):∃y A',handC (elG A) x=some (y,elG A')∧c y A'=some r:=by
 unfold haC at h;split at h
 ·rename_i s z n;rw[JE] at h;cases q:elG A s with
  |none=>rw[q] at h;cases h
  |some w=>
   obtain⟨z',rows,f⟩:=w;rw[q] at h;cases f with
   |frz=>cases h
   |dead=>cases h
   |live=>
    change bo (Nat.beq z' z) (bo (Nat.beq (Js rows) n) (JM s (z,[],.dead) A fun A'=>c (.tuple [.slice z rows]) A') none) none=some r at h;rcases Jb h with ⟨h1,h2⟩|⟨_,h2⟩<;>try (cases h2;done)
    rcases Jb h2 with ⟨h3,h4⟩|⟨_,h4⟩<;>try (cases h4;done)
    rw[Jl] at h3;rw[Jp] at h4;refine⟨_,_,?_,h4⟩;simp only[handC,q];rw[Gl ⟨JD h1,JD h3⟩,JQ]
 ·exact⟨_,_,rfl,h⟩
 ·rename_i h1 h2;rcases Jb h with ⟨h3,h4⟩|⟨_,h4⟩<;>try (cases h4;done)
  refine⟨x,A,?_,h4⟩;unfold handC;split
  ·rename_i s z n;exact absurd rfl (h1 s z n)
  ·rename_i z;exact absurd rfl (h2 z)
  ·rw[Gl h3]
def haL (l:List V):AL→(List V→AL→FO)→FO:=@List.rec V (fun _=>AL→(List V→AL→FO)→FO) (fun A c=>c [] A) (fun x _ ih A c=>haC x A fun y A'=>ih A' fun ys A''=>c (y::ys) A'') l
theorem Je8:∀{l:List V} {A:AL} {c:List V→AL→FO} {r:V},haL l A c=some r→∃ys A',Jal l (elG A)=some (ys,elG A')∧c ys A'=some r
 |[],A,c,r,h=>⟨[],A,rfl,h⟩
 |x::l,A,c,r,h=>by
  change haC x A (fun y A'=>haL l A' fun ys A''=>c (y::ys) A'')=some r at h;obtain⟨y,A1,h1,h2⟩:=JiZ h;obtain⟨ys,A2,h3,h4⟩:=Je8 h2;exact⟨y::ys,A2,by simp only[Jal,h1,Option.bind_some,h3],h4⟩
def taC (d:Nat) (x:V) (A:AL) (c:V→AL→FO):FO:=match x with
 |.tuple [.slice z rows]=>fresh A d (JM d (z,rows,.live) A fun A'=>c (.own d z (Js rows)) A')
 |x=>bo x.datC (c x A) none
theorem Jkh {d:Nat} {x:V} {A:AL} {c:V→AL→FO} {r:V} (h:taC d x A c=some r):∃y A',takeC d (elG A) x=some (y,elG A')∧c y A'=some r:=by
 unfold taC at h;split at h
 ·obtain⟨h1,h2⟩:=JT h;rw[Jp,Jl] at h2;exact⟨_,_,by simp only[takeC,h1,JQ],h2⟩
 ·rename_i h1;rcases Jb h with ⟨h3,h4⟩|⟨_,h4⟩<;>try (cases h4;done)
  refine⟨x,A,?_,h4⟩;unfold takeC;split
  ·rename_i z rows;exact absurd rfl (h1 z rows)
  ·rw[Gl h3]
def taL (l:List V):Nat→AL→(List V→AL→FO)→FO:=@List.rec V (fun _=>Nat→AL→(List V→AL→FO)→FO) (fun _ A c=>c [] A) (fun x _ ih d A c=>taC d x A fun y A'=>ih (Nat.succ d) A' fun ys A''=>c (y::ys) A'') l
theorem Jb4:∀{l:List V} {d:Nat} {A:AL} {c:List V→AL→FO} {r:V},taL l d A c=some r→∃ys A',JS d l (elG A)=some (ys,elG A')∧c ys A'=some r
 |[],d,A,c,r,h=>⟨[],A,rfl,h⟩
 |x::l,d,A,c,r,h=>by
  change taC d x A (fun y A'=>taL l (d+1) A' fun ys A''=>c (y::ys) A'')=some r at h;obtain⟨y,A1,h1,h2⟩:=Jkh h;obtain⟨ys,A2,h3,h4⟩:=Jb4 h2;exact⟨y::ys,A2,by simp only[JS,h1,Option.bind_some,h3],h4⟩
def JgG (f:Nat) (xs:List Arg) (k s b:Nat):FE:=fun κ d e ρ μ A c=>Jde e ρ xs fun vs=>oc (Jam vs k) fun p=>match p with
 |.lref s' 0=>bo (Nat.beq s' s) (dL A (Jc6 vs .undef k) fun bs=>JaO none (fun m=>@Prod.rec _ _ (fun _=>FO) (fun cs fz=>bo fz none
   (Je3 ((Jc6 vs .undef k).flatMap Je) A fun A1=>haL cs A1 fun us A2=>oc (κ f (Jc6 bs (.tuple (.lref 0 0::us)) k)) fun r=>match r with
    |.tuple [r0,.tuple ws]=>taL ws b A2 fun ts A3=>JM s (ts,false) μ fun μ'=>c r0 μ' A3
    |_=>none)) m) s μ) none
 |_=>none
def JiQ (z:List V) (b:Nat):FE:=fun κ d e ρ μ A k=>fresh μ d (taL (z.map nilT) b A fun ts A'=>JM d (ts,false) μ fun μ'=>k (.lref d 0) μ' A')
def JiS (x:Arg) (b:Nat):FE:=fun κ d e ρ μ A k=>fresh μ d (axc e ρ x fun x=>match x with
 |.agg cs=>bo (alF V.datC cs) (taL (cs.map nilT) b A fun ts A'=>JM d (ts,false) μ fun μ'=>k (.lref d 0) μ' A') none
 |_=>none)
def JiR (z:Nat) (x y:Arg):FE:=fun κ d e ρ μ A k=>axc e ρ x fun x=>axc e ρ y fun y=>match x with
 |.own s z' n=>bo (Nat.beq z' z) (apF s z n y A fun v A'=>k v μ A') none
 |_=>none
def Jlj (z:Nat) (x:Arg) (lo hi:Option Arg):FE:=fun κ d e ρ μ A k=>axc e ρ x fun x=>Jdc e ρ lo fun lo=>Jdc e ρ hi fun hi=>dcF A x fun y=>oc (slF false z y lo hi) fun v=>Je3 (Jc x) A fun A'=>k v μ A'
def Jk6 (x:Arg):FE:=fun κ d e ρ μ A k=>axc e ρ x fun x=>oc (Jga (elG A) x) fun v=>k v μ A
def Jdi (z s:Nat):FE:=fun κ d e ρ μ A k=>JcQ A s fun A'=>fresh A' d (JM d (z,[],.live) A' fun A''=>k (.own d z 0) μ A'')
def Jlk (s z:Nat) (x:Arg) (lo hi:Option Arg):FE:=fun κ d e ρ μ A k=>axc e ρ x fun x=>Jdc e ρ lo fun lo=>Jdc e ρ hi fun hi=>oc (frzD (elG A) s x) fun y=>oc (slF false z y lo hi) fun v=>k v μ A
def Jlp (off:Nat) (n:Option Nat) (x:V):FO:=match x with
 |.agg cs=>ldF cs off n
 |_=>none
def Jle (t:Nat) (x:Arg):FE:=fun κ d e ρ μ A k=>axc e ρ x fun x=>bo (Jd8 x) (k (.iface t x) μ A) none
def JkH (t:Nat) (z:Option (List V)) (x:V):FO:=match x with
 |.iface t' v=>if t'=t then some (match z with|none=>v|some _=>.tuple [v,.bool true]) else z.bind fun z=>some (.tuple [.agg z,.bool false])
 |.niface=>z.bind fun z=>some (.tuple [.agg z,.bool false])
 |_=>none
def Jlc (l:List (Nat×Nat)) (x:Arg) (xs:List Arg):FE:=fun κ d e ρ μ A k=>axc e ρ x fun x=>Jde e ρ xs fun vs=>match x with
 |.iface t v=>bo (alF Jd8 (v::vs)) (oc (l.find? (·.1 == t)) fun f=>oc (κ f.2 (v::vs)) fun r=>k r μ A) none
 |_=>none
def Jk7:FE:=fun κ d e ρ μ A k=>none
def fev (k:K):FE:=@K.rec (fun _=>FE) Jli JiU Jk8 JgE JgF Jlh Jlg Jlf (p1 Jic) Jla JiT JgH (fun o=>p2 (Jip o)) (fun ne sh=>p2 (JkY ne sh)) (fun ne=>p2 (JkZ ne)) (fun o=>p2 (shF o)) (fun mx=>p2 (mmV mx))
 (fun o=>p1 (unV o)) (fun c=>p1 (JeM c)) f_fn Jmp (fun x off=>p1 (Jdj off) x) (fun z=>p2 (Ji6 z)) (fun z n=>p2 (Jbu z n)) (p2 Jdm) (fun x i=>p1 (JiO i) x) (fun st=>p1 (Jjl st)) Jk5 Jk4 Jlb Jk9 Jdh (p1 Jib) Jld JgG JiQ JiS JiR Jlj
 Jk6 Jdi Jlk (fun x off n=>p1 (Jlp off n) x) Jle (fun t z=>p1 (JkH t z)) Jlc (p1 Jlz) Jk7 k
theorem JiW {κ:Nat→List V→FO} {d:Nat} {e ρ:EL V} {μ:ML} {A:AL} {c:KC} {r:V}:∀{k:K},fev k κ d e ρ μ A c=some r→∃v μ' A',ev κ d (elR e) (den ρ μ A) k=some (v,den ρ μ' A')∧c v μ' A'=some r
 |.mov x,h=>by
  change axc e ρ x _=_ at h;rw[Jj] at h;exact⟨_,_,_,rfl,h⟩
 |.pick q a b,h=>by
  change axc e ρ q _=_ at h;simp only[Jj] at h;obtain⟨w,h1,h2⟩:=Jf h;refine⟨w,μ,A,?_,h2⟩;simp only[ev,den];unfold Jid at h1;split at h1<;>try (cases h1;done)
  rename_i t hc;simp only[hc];rw[←Option.some.inj h1];cases t<;>rfl
 |.box x,h=>by
  obtain⟨h1,h2⟩:=JT h;rw[Jj] at h2;obtain⟨cs,h3,h4⟩:=Jf h2;rw[Jp] at h4;refine⟨_,_,_,?_,h4⟩;simp only[ev,den,h1,h3,Option.bind_some,JQ]
 |.alloc z,h=>by
  obtain⟨h1,h2⟩:=JT h;rw[Jp] at h2;refine⟨_,_,_,?_,h2⟩;simp only[ev,den,h1,JQ]
 |.build z ps,h=>by
  change axp e ρ ps _=_ at h;rw[JeF] at h;obtain⟨cs,h1,h2⟩:=JeZ h;refine⟨_,_,_,?_,h2⟩;simp only[ev,den,h1,Option.bind_some]
 |.mks z n zero ps,h=>by
  change axq e ρ ps _=_ at h;rw[Jdd] at h;obtain⟨rows,h1,h2⟩:=Jf h;refine⟨_,_,_,?_,h2⟩;simp only[ev,den,h1,Option.bind_some]
 |.mko z,h=>by
  obtain⟨h1,h2⟩:=JT h;rw[Jp] at h2;refine⟨_,_,_,?_,h2⟩;simp only[ev,den,h1,JQ]
 |.mkb z n zero ps,h=>by
  change axq e ρ ps _=_ at h;rw[Jdd] at h;obtain⟨rows,h1,h2⟩:=Jf h;obtain⟨v,A',h3,h4⟩:=Jbl (ρ:=ρ) h2;refine⟨_,_,_,?_,h4⟩
  show (Jr z _ _).bind _=_
  rw[show (den ρ μ A).ρ=elR ρ from rfl,h1];exact h3
 |.nilq x,h=>by
  obtain⟨w,h1,h2⟩:=JaT (κ:=κ) (d:=d) h;refine⟨w,μ,A,?_,h2⟩;unfold Jic at h1;split at h1<;>try (cases h1;done)
  all_goals (rename_i q;simp only[Ga] at h1;subst h1;simp only[ev,den,q])
 |.ifn x,h=>by
  obtain⟨w,h1,h2⟩:=JaT (κ:=κ) (d:=d) h;refine⟨w,μ,A,?_,h2⟩;unfold Jlz at h1;split at h1<;>try (cases h1;done)
  all_goals (rename_i q;simp only[Ga] at h1;subst h1;simp only[ev,den,q])
 |.frz s x,h=>by
  change axc e ρ x _=_ at h;rw[Jj] at h;split at h<;>try (cases h;done)
  rename_i s' z n q;rcases Jb h with ⟨h1,h2⟩|⟨_,h2⟩<;>try (cases h2;done)
  obtain⟨y,h3,h4⟩:=JbM h2;obtain⟨A',h5,h6⟩:=Jba h4;refine⟨_,_,_,?_,h6⟩;simp only[ev,den,q];rw[Gl (JD h1),h3];simp only[Option.bind_some,h5]
 |.load l n p,h=>by
  change axc e ρ p _=_ at h;rw[Jj] at h;cases l with
  |v s=>
   obtain⟨v,h1,h2⟩:=Jfj (ρ:=ρ) (A:=A) h;refine⟨v,μ,A,?_,h2⟩
   show (Jz (den ρ μ A) (.v s) n (argv (elR e) (elR ρ) p)).bind _=_
   rw[h1];rfl
  |e s=>
   change Je7 n s _ A _=_ at h;unfold Je7 at h;split at h<;>try (cases h;done)
   rename_i s' i off m q;rcases Jb h with ⟨h1,h2⟩|⟨_,h2⟩<;>try (cases h2;done)
   obtain⟨v,h3,h4⟩:=Jfi h2;refine⟨v,μ,A,?_,h4⟩
   show (Jz (den ρ μ A) (.e s) n (argv (elR e) (elR ρ) p)).bind _=_
   rw[q];have hs:=JD h1;subst hs
   show (if s'=s' then (match elG A s' with|some (_,rows,f)=>_|none=>none) else none).bind _=_
   rw[Gl rfl,h3];rfl
  |c=>
   change ldC n _ _=_ at h;unfold ldC at h;split at h<;>try (cases h;done)
   rename_i cs off q;obtain⟨v,h3,h4⟩:=Jf h;rw[Jcy] at h3;refine⟨v,μ,A,?_,h4⟩
   show (Jz (den ρ μ A) .c n (argv (elR e) (elR ρ) p)).bind _=_
   rw[q]
   show (J5 cs off n).bind _=_
   rw[h3];rfl
  |x=>
   change ldX n _ A _=_ at h;unfold ldX at h;split at h<;>try (cases h;done)
   rename_i s' i off m q;obtain⟨v,h3,h4⟩:=Jfi h;refine⟨v,μ,A,?_,h4⟩
   show (Jz (den ρ μ A) .x n (argv (elR e) (elR ρ) p)).bind _=_
   rw[q]
   show (match elG A s' with|some (_,rows,f)=>_|none=>none:FO).bind _=_
   rw[h3];rfl
 |.store l n p x,h=>by
  change axc e ρ p _=_ at h;rw[Jj,Jj] at h;obtain⟨xs,h1,h2⟩:=Jf h;obtain⟨h3,h4⟩:=JdL h2;have key:∀S',JC (den ρ μ A) l n (argv (elR e) (elR ρ) p) (argv (elR e) (elR ρ) x)=some S'→ev κ d (elR e) (den ρ μ A) (.store l n p x)=some (.undef,S'):=fun S' hh=>by
   show (JC (den ρ μ A) l n (argv (elR e) (elR ρ) p) (argv (elR e) (elR ρ) x)).bind _=_
   rw[hh];rfl
  unfold JC at key;rw[h1] at key;simp only[Option.bind_some] at key;rw[Gl h3] at key;cases l with
  |v s=>
   change (match argv (elR e) (elR ρ) p with|.lref s' off=>_|_=>none)=_ at h4;split at h4<;>try (cases h4;done)
   rename_i s' off q;rcases Jb h4 with ⟨h5,h6⟩|⟨_,h6⟩<;>try (cases h6;done)
   rw[JE] at h6;cases qm:elG μ s with
   |none=>rw[qm] at h6;cases h6
   |some m=>
    obtain⟨cs,b⟩:=m;rw[qm] at h6;change bo b none _=_ at h6;rcases Jb h6 with ⟨_,h7⟩|⟨h8,h7⟩<;>try (cases h7;done)
    subst h8;obtain⟨cs',h9,h10⟩:=Jf h7;rw[Jp] at h10;refine⟨_,_,_,key _ ?_,h10⟩;rw[q];simp only[den,JD h5,Gx,qm,JcE h9,Option.bind_some,JQ]
  |e s=>
   change (match argv (elR e) (elR ρ) p with|.eref s' i off m=>_|_=>none)=_ at h4;split at h4<;>try (cases h4;done)
   rename_i s' i off m q;rcases Jb h4 with ⟨h5,h6⟩|⟨_,h6⟩<;>try (cases h6;done)
   obtain⟨A',h7,h8,h9⟩:=JfO (ρ:=ρ) (μ:=μ) h6;refine⟨_,_,_,key _ ?_,h9⟩;rw[q];have hs:=JD h5;subst hs;simp only;rw[Gl ⟨Gn,h7⟩];exact h8
  |c=>cases h4
  |x=>
   change (match argv (elR e) (elR ρ) p with|.eref s' i off m=>_|_=>none)=_ at h4;split at h4<;>try (cases h4;done)
   rename_i s' i off m q;obtain⟨A',h7,h8,h9⟩:=JfO (ρ:=ρ) (μ:=μ) h4;refine⟨_,_,_,key _ ?_,h9⟩;rw[q];simp only;rw[Gl h7];exact h8
 |.bin o x y,h=>by
  obtain⟨w,h1,h2⟩:=Jbv (κ:=κ) (d:=d) h;exact⟨w,μ,A,by simp only[ev,den,Jgb h1,Option.bind_some],h2⟩
 |.eqa ne sh x y,h=>by
  obtain⟨w,h1,h2⟩:=Jbv (κ:=κ) (d:=d) h;refine⟨w,μ,A,?_,h2⟩;unfold JkY at h1;split at h1<;>try (cases h1;done)
  rename_i xs ys q1 q2;rw[Gb] at h1;obtain⟨b,h1,h3⟩:=h1;simp only[ev,den,q1,q2,h1,Option.bind_some];rw[Option.some.inj h3]
 |.eqb ne x y,h=>by
  obtain⟨w,h1,h2⟩:=Jbv (κ:=κ) (d:=d) h;refine⟨w,μ,A,?_,h2⟩;unfold JkZ at h1;split at h1<;>try (cases h1;done)
  rename_i a b q1 q2;simp only[ev,den,q1,q2];rw[Option.some.inj h1]
 |.sh o x y,h=>by
  obtain⟨w,h1,h2⟩:=Jbv (κ:=κ) (d:=d) h;exact⟨w,μ,A,by simp only[ev,den,Jkd h1,Option.bind_some],h2⟩
 |.mm mx x y,h=>by
  obtain⟨w,h1,h2⟩:=Jbv (κ:=κ) (d:=d) h;refine⟨w,μ,A,?_,h2⟩;unfold mmV at h1;split at h1<;>try (cases h1;done)
  rename_i k a k' b q1 q2;split at h1<;>try (cases h1;done)
  rename_i hk;simp only[ev,den,q1,q2];rw[Gl hk,Option.some.inj h1]
 |.un o x,h=>by
  obtain⟨w,h1,h2⟩:=JaT (κ:=κ) (d:=d) h;exact⟨w,μ,A,by simp only[ev,den,h1,Option.bind_some],h2⟩
 |.conv q x,h=>by
  obtain⟨w,h1,h2⟩:=JaT (κ:=κ) (d:=d) h;exact⟨w,μ,A,by simp only[ev,den,JeN h1,Option.bind_some],h2⟩
 |.fn f cap sites,h=>by
  change (if sites.all (JK (elG μ)) then _ else none)=_ at h;split at h<;>try (cases h;done)
  rename_i hs;rw[Ja3] at h;obtain⟨cs,h1,h2⟩:=Jf h;obtain⟨μ',h3,h4⟩:=Jcx h2;refine⟨_,_,_,?_,h4⟩;simp only[ev,den];refine (Gl hs).trans ?_;rw[h1];simp only[Option.bind_some,h3]
 |.sl st z x lo hi,h=>by
  change axc e ρ x _=_ at h;rw[Jj,JaJ,JaJ] at h;obtain⟨v,h1,h2⟩:=Jf h;exact⟨v,μ,A,by simp only[ev,den,JdB h1,Option.bind_some],h2⟩
 |.fad x off,h=>by
  obtain⟨w,h1,h2⟩:=JaT (κ:=κ) (d:=d) h;exact⟨w,μ,A,by simp only[ev,den,h1,Option.bind_some],h2⟩
 |.iad z x i,h=>by
  obtain⟨w,h1,h2⟩:=Jbv (κ:=κ) (d:=d) h;exact⟨w,μ,A,by simp only[ev,den,JgR h1,Option.bind_some],h2⟩
 |.iada z n x i,h=>by
  obtain⟨w,h1,h2⟩:=Jbv (κ:=κ) (d:=d) h;exact⟨w,μ,A,by simp only[ev,den,h1,Option.bind_some],h2⟩
 |.idx x i,h=>by
  obtain⟨w,h1,h2⟩:=Jbv (κ:=κ) (d:=d) h;exact⟨w,μ,A,by simp only[ev,den,JgT h1,Option.bind_some],h2⟩
 |.ext x i,h=>by
  obtain⟨w,h1,h2⟩:=JaT (κ:=κ) (d:=d) h;exact⟨w,μ,A,by simp only[ev,den,JgD h1,Option.bind_some],h2⟩
 |.len st x,h=>by
  obtain⟨w,h1,h2⟩:=JaT (κ:=κ) (d:=d) h;exact⟨w,μ,A,by simp only[ev,den,JgX h1,Option.bind_some],h2⟩
 |.app s z x y,h=>by
  change axc e ρ x _=_ at h;rw[Jj,Jj] at h
  show ∃v μ' A',appN (den ρ μ A) s z (argv (elR e) (elR ρ) x) (argv (elR e) (elR ρ) y)=_∧_
  unfold appN;split at h
  ·rename_i z' q;rcases Jb h with ⟨h1,h2⟩|⟨_,h2⟩<;>try (cases h2;done)
   obtain⟨h3,h4⟩:=JT h2;obtain⟨ys,h5,h6⟩:=JfG h4;obtain⟨h7,h8⟩:=JcV h6;rw[Jp,Jl] at h8;rw[Jl] at h7;refine⟨_,μ,_,?_,h8⟩;simp only[q,JD h1,Gx,den,h3,h5,Option.bind_some];rw[Gl h7];simp only[JQ]
  ·rename_i hx;obtain⟨v,A',h1,h2⟩:=JeD (ρ:=ρ) (μ:=μ) h;refine⟨v,μ,A',?_,h2⟩;split
   ·rename_i z' q;exact absurd q (hx z')
   ·exact h1
 |.apf s z x y,h=>by
  change axc e ρ x _=_ at h;rw[Jj,Jj] at h;obtain⟨v,A1,h1,h2⟩:=JeD (ρ:=ρ) (μ:=μ) h;obtain⟨w,h3,h4⟩:=JbM h2;obtain⟨A2,h5,h6⟩:=Jba h4;refine⟨w,μ,A2,?_,h6⟩
  show (J7 (den ρ μ A) s z (argv (elR e) (elR ρ) x) (argv (elR e) (elR ρ) y)).bind _=_
  rw[h1]
  show (toDC (elG A1) v).bind _=_
  rw[h3];simp only[Option.bind_some,den,h5]
 |.ins f s z x i y,h=>by
  change axc e ρ x _=_ at h;simp only[Jj] at h;split at h<;>try (cases h;done)
  rename_i s' z' n j z'' ys q1 q2 q3;split at h<;>try (cases h;done)
  rename_i hs;split at h<;>try (cases h;done)
  rename_i z3 rows q4;split at h<;>try (cases h;done)
  rename_i hc;rw[Jp] at h;refine⟨_,μ,_,?_,h⟩;simp only[ev,den,q1,q2,q3];rw[Gl hs];simp only[q4];rw[Gl hc];simp only[JQ]
 |.del f s z x i j,h=>by
  change axc e ρ x _=_ at h;simp only[Jj] at h;split at h<;>try (cases h;done)
  rename_i s' z' n a m q1 q2 q3;split at h<;>try (cases h;done)
  rename_i hs;split at h<;>try (cases h;done)
  rename_i z3 rows q4 q5;split at h<;>try (cases h;done)
  rename_i hc;rw[Jp,Jp] at h;refine⟨_,μ,_,?_,h⟩;simp only[ev,den,q1,q2,q3];rw[Gl hs];simp only[q4,q5];rw[Gl hc];simp only[JQ]
 |.call f cv own xs,h=>by
  have h:Jdh f cv own xs κ d e ρ μ A c=some r:=h;unfold Jdh at h;obtain⟨g,cap,h1,h2⟩:=Jir h;rw[Ja3] at h2;have hev:ev κ d (elR e) (den ρ μ A) (.call f cv own xs)=callV κ d (den ρ μ A) cv own (g,cap) (xs.map (argv (elR e) (elR ρ))):=by
   show (callee (elR e) (elR ρ) f).bind _=_
   rw[h1];rfl
  rw[hev];generalize xs.map (argv (elR e) (elR ρ))=vs at h2;cases cv with
  |no=>
   rcases Jb h2 with ⟨h3,h4⟩|⟨_,h4⟩<;>try (cases h4;done)
   obtain⟨x,h5,h6⟩:=Jf h4;rw[JaH] at h5;obtain⟨v,A',h7,h8⟩:=Jbl (ρ:=ρ) h6;refine⟨v,μ,A',?_,h8⟩;have h9:vs.all V.dat=true:=by rw[Jbm] at h3;rw[show V.dat=Jd8 from (funext Jct).symm];exact h3
   simp only[callV,h9,Gx,h5,Option.bind_some];exact h7
  |borrow=>
   obtain⟨bs,h3,h4⟩:=JdK h2;obtain⟨x,h5,h6⟩:=Jf h4;rw[JaH] at h5;rcases Jb h6 with ⟨h7,h8⟩|⟨_,h8⟩<;>try (cases h8;done)
   refine⟨x,μ,A,?_,h8⟩
   show (Jn (toD (elG A)) vs).bind _=_
   rw[h3,Option.bind_some,h5,Option.bind_some,Gl h7]
  |freeze=>
   obtain⟨bs,h3,h4⟩:=JdK h2;obtain⟨x,h5,h6⟩:=Jf h4;rw[JaH] at h5;obtain⟨A1,h7,h8⟩:=JbB h6;obtain⟨v,A',h9,h10⟩:=Jbl (ρ:=ρ) h8;refine⟨v,μ,A',?_,h10⟩
   show (Jn (toD (elG A)) vs).bind _=_
   rw[h3,Option.bind_some,h5,Option.bind_some,←h9];simp only[den,h7]
 |.nilc x,h=>by
  obtain⟨w,h1,h2⟩:=JaT (κ:=κ) (d:=d) h;refine⟨w,μ,A,?_,h2⟩;unfold Jib at h1;split at h1<;>try (cases h1;done)
  all_goals (rename_i q;simp only[Ga] at h1;subst h1;simp only[ev,den,q])
 |.ldf s w n p,h=>by
  change axc e ρ p _=_ at h;rw[Jj] at h;obtain⟨x,h1,h2⟩:=Jfj (ρ:=ρ) (A:=A) h;split at h2<;>try (cases h2;done)
  rename_i hc;obtain⟨y,h3,h4⟩:=Jh7 h2;obtain⟨A',h5,h6⟩:=Jba h4;refine⟨y,μ,A',?_,h6⟩
  show (Jz (den ρ μ A) (.v w) (some n) (argv (elR e) (elR ρ) p)).bind _=_
  rw[h1,Option.bind_some,Gl hc]
  show (toD (elG A) x).bind _=_
  rw[h3];simp only[Option.bind_some,den,h5]
 |.rcall f xs k s b,h=>by
  change Jde e ρ xs _=_ at h;rw[Ja3] at h;obtain⟨p,h1,h2⟩:=Jf h;rw[JV] at h1;split at h2<;>try (cases h2;done)
  rename_i s';rcases Jb h2 with ⟨h3,h4⟩|⟨_,h4⟩<;>try (cases h4;done)
  rw[Jbg] at h4;obtain⟨bs,h5,h6⟩:=JdK h4;rw[JE] at h6;cases qm:elG μ s with
  |none=>rw[qm] at h6;cases h6
  |some m=>
   obtain⟨cs,fz⟩:=m;rw[qm] at h6;change bo fz none _=_ at h6;rcases Jb h6 with ⟨_,h7⟩|⟨h8,h7⟩<;>try (cases h7;done)
   subst h8;obtain⟨A1,h9,h10⟩:=JbB h7;obtain⟨us,A2,h11,h12⟩:=Je8 h10;obtain⟨x,h13,h14⟩:=Jf h12;rw[Jbg] at h13;split at h14<;>try (cases h14;done)
   rename_i r0 ws;obtain⟨ts,A3,h15,h16⟩:=Jb4 h14;rw[Jp] at h16;refine⟨r0,_,A3,?_,h16⟩
   show (rcallA (den ρ μ A) k s (xs.map (argv (elR e) (elR ρ)))).bind _=_
   have hA:rcallA (den ρ μ A) k s (xs.map (argv (elR e) (elR ρ)))=some (bs.set k (.tuple (.lref 0 0::us)),elG A2):=by
    unfold rcallA;rw[h1];simp only;rw[Gl (JD h3)]
    show (Jn (toD (elG A)) _).bind _=_
    rw[h5,Option.bind_some];simp only[den,qm];rw[←h9,h11];rfl
   rw[hA,Option.bind_some]
   show (κ f _).bind _=_
   rw[h13,Option.bind_some];simp only[rcallE,h15,Option.bind_some,den,JQ]
 |.allo z b,h=>by
  obtain⟨h1,h2⟩:=JT h;obtain⟨ts,A',h3,h4⟩:=Jb4 h2;rw[Jp] at h4;refine⟨_,_,_,?_,h4⟩;simp only[ev,den,h1,h3,Option.bind_some,JQ]
 |.boxo x b,h=>by
  obtain⟨h1,h2⟩:=JT h;rw[Jj] at h2;split at h2<;>try (cases h2;done)
  rename_i cs q;rcases Jb h2 with ⟨h3,h4⟩|⟨_,h4⟩<;>try (cases h4;done)
  rw[Jbm] at h3;obtain⟨ts,A',h5,h6⟩:=Jb4 h4;rw[Jp] at h6;refine⟨_,_,_,?_,h6⟩;simp only[ev,den,h1,q,h3,Gx,h5,Option.bind_some,JQ]
 |.appd z x y,h=>by
  change axc e ρ x _=_ at h;rw[Jj,Jj] at h;split at h<;>try (cases h;done)
  rename_i s z' n q;rcases Jb h with ⟨h3,h4⟩|⟨_,h4⟩<;>try (cases h4;done)
  obtain⟨v,A',h5,h6⟩:=JeC (ρ:=ρ) (μ:=μ) h4;refine⟨v,μ,A',?_,h6⟩
  show appW (den ρ μ A) z (argv (elR e) (elR ρ) x) (argv (elR e) (elR ρ) y)=_
  rw[q]
  show J7 (den ρ μ A) s z (.own s z' n) _=_
  rw[JD h3];exact h5
 |.slf z x lo hi,h=>by
  change axc e ρ x _=_ at h;rw[Jj,JaJ,JaJ] at h;obtain⟨y,h1,h2⟩:=JbM h;obtain⟨v,h3,h4⟩:=Jf h2;obtain⟨A',h5,h6⟩:=JbB h4;refine⟨v,μ,A',?_,h6⟩
  show (toDC (elG A) (argv (elR e) (elR ρ) x)).bind _=_
  rw[h1,Option.bind_some]
  show (slV false z y (lo.map (argv (elR e) (elR ρ))) (hi.map (argv (elR e) (elR ρ)))).bind _=_
  rw[JdB h3,Option.bind_some];simp only[den,h5]
 |.b2s x,h=>by
  change axc e ρ x _=_ at h;rw[Jj] at h;obtain⟨v,h1,h2⟩:=Jf h;refine⟨v,μ,A,?_,h2⟩;simp only[ev,den,h1,Option.bind_some]
 |.mkoz z s,h=>by
  have h:Jdi z s κ d e ρ μ A c=some r:=h;unfold Jdi at h;obtain⟨A1,h1,h2⟩:=Jba h;obtain⟨h3,h4⟩:=JT h2;rw[Jp] at h4;refine⟨_,μ,_,?_,h4⟩;simp only[ev,den];rw[←h1];simp only[h3,JQ]
 |.slr s z x lo hi,h=>by
  change axc e ρ x _=_ at h;rw[Jj,JaJ,JaJ] at h;obtain⟨y,h1,h2⟩:=Jf h;obtain⟨v,h3,h4⟩:=Jf h2;refine⟨v,μ,A,?_,h4⟩
  show (frzD (elG A) s (argv (elR e) (elR ρ) x)).bind _=_
  rw[h1,Option.bind_some]
  show (slV false z y (lo.map (argv (elR e) (elR ρ))) (hi.map (argv (elR e) (elR ρ)))).bind _=_
  rw[JdB h3];rfl
 |.fld x off n,h=>by
  obtain⟨w,h1,h2⟩:=JaT (κ:=κ) (d:=d) h;refine⟨w,μ,A,?_,h2⟩;unfold Jlp at h1;split at h1<;>try (cases h1;done)
  rename_i cs q;rw[Jcy] at h1;simp only[ev,den,q,h1,Option.bind_some]
 |.mif t x,h=>by
  change axc e ρ x _=_ at h;rw[Jj] at h;rcases Jb h with ⟨h3,h4⟩|⟨_,h4⟩<;>try (cases h4;done)
  rw[Jct] at h3;refine⟨_,μ,A,?_,h4⟩;simp only[ev,den,h3,Gx]
 |.asr t z x,h=>by
  obtain⟨w,h1,h2⟩:=JaT (κ:=κ) (d:=d) h;refine⟨w,μ,A,?_,h2⟩;unfold JkH at h1;split at h1<;>try (cases h1;done)
  ·rename_i t' v' q;simp only[ev,den,q];split at h1
   ·rename_i ht;rw[Gl ht,←Option.some.inj h1];cases z<;>rfl
   ·rename_i ht;rw[Gj ht];cases z with
    |none=>cases h1
    |some z=>simp only[Option.bind_some,Ga] at h1 ⊢;rw[h1]
  ·rename_i q;simp only[ev,den,q];cases z with
   |none=>cases h1
   |some z=>simp only[Option.bind_some,Ga] at h1 ⊢;rw[h1]
 |.inv l x xs,h=>by
  change axc e ρ x _=_ at h;rw[Jj,Ja3] at h;split at h<;>try (cases h;done)
  rename_i t v q;rcases Jb h with ⟨h3,h4⟩|⟨_,h4⟩<;>try (cases h4;done)
  rw[Jbm,show Jd8=V.dat from funext Jct] at h3;obtain⟨f,h5,h6⟩:=Jf h4;obtain⟨x',h7,h8⟩:=Jf h6;refine⟨x',μ,A,?_,h8⟩;simp only[ev,den,q];refine (Gl h3).trans ?_;rw[h5,Option.bind_some,h7];rfl
 |.bad,h=>by cases h
abbrev SC:Type:=EL V→ML→AL→FO
def JjE (cl:List Nat) (gl:Bool) (dst:Option Nat) (v:V) (ρ:EL V) (c:EL V→FO):FO:=@Bool.rec (fun _=>FO) (c ρ) (@Option.rec _ (fun _=>FO) (c ρ) (fun d=>bo (inL cl d) (JM d v ρ c) (c (.c d v ρ))) dst) gl
theorem JdX {cl:List Nat} {dst:Option Nat} {gl:Bool} {k:K} {gd:Option (Nat×Bool)} {v:V} {ρ:EL V} {μ:ML} {A:AL} {c:EL V→FO} {r:V} (h:JjE cl gl dst v ρ c=some r) :
  ∃ρ',(den ρ μ A).put ⟨dst,gl,k,gd⟩ v=den ρ' μ A∧c ρ'=some r:=by
 cases gl with
 |false=>exact⟨ρ,by cases dst<;>rfl,h⟩
 |true=>
  cases dst with
  |none=>exact⟨ρ,rfl,h⟩
  |some d=>
   change bo (inL cl d) (JM d v ρ c) (c (.c d v ρ))=some r at h
   cases q:inL cl d with
   |true=>
    rw[q] at h
    change JM d v ρ c=some r at h
    rw[Jp] at h
    exact⟨_,by simp only[St.put,den,Jh9],h⟩
   |false=>rw[q] at h;exact⟨_,by simp only[St.put,den,Jbs],h⟩
def Jkr (b:Bool) (no yes:FO) (v:V):FO:=match v with
 |.bool t=>bo b (bo t yes no) (bo t no yes)
 |.tuple []=>no
 |_=>none
def Jmi (e:EL V) (gd:Option (Nat×Bool)) (no yes:FO):FO:=@Option.rec _ (fun _=>FO) yes (fun g=>@Prod.rec _ _ (fun _=>FO) (fun j b=>Jea (Jkr b no yes) j e) g) gd
theorem JhY {e:EL V} {gd:Option (Nat×Bool)} {no yes:FO} {r:V} (h:Jmi e gd no yes=some r):(Jq (elR e) gd=some true∧yes=some r)∨(Jq (elR e) gd=some false∧no=some r):=by
 cases gd with
 |none=>exact .inl ⟨rfl,h⟩
 |some g=>
  obtain⟨j,b⟩:=g;change Jea (Jkr b no yes) j e=some r at h;rw[JbA] at h;unfold Jkr at h;split at h
  ·rename_i t q;simp only[Jq,q];cases b<;>cases t<;>first|exact .inl ⟨rfl,h⟩|exact .inr ⟨rfl,h⟩
  ·rename_i q;exact .inr ⟨by simp only[Jq,q],h⟩
  ·cases h
def JfP (κ:Nat→List V→FO) (cl:List Nat) (o:Op) (e ρ:EL V) (μ:ML) (A:AL) (c:V→SC):FO:=@Op.rec (fun _=>FO) (fun dst gl k gd=>
 Jmi e gd (JjE cl gl dst .un ρ fun ρ'=>c .un ρ' μ A) (fev k κ (@Option.rec _ (fun _=>Nat) 0 (fun d=>d) dst) e ρ μ A fun v μ' A'=>JjE cl gl dst v ρ fun ρ'=>c v ρ' μ' A')) o
theorem JfQ {κ:Nat→List V→FO} {cl:List Nat} {o:Op} {e ρ:EL V} {μ:ML} {A:AL} {c:V→SC} {r:V} (h:JfP κ cl o e ρ μ A c=some r) :
  ∃v ρ' μ' A',step κ o (elR e) (den ρ μ A)=some (v,den ρ' μ' A')∧c v ρ' μ' A'=some r:=by
 obtain⟨dst,gl,k,gd⟩:=o
 rcases JhY h with ⟨h1,h2⟩|⟨h1,h2⟩
 ·obtain⟨v,μ',A',h3,h4⟩:=JiW h2
  obtain⟨ρ',h5,h6⟩:=JdX (k:=k) (gd:=gd) (μ:=μ') (A:=A') h4
  refine⟨v,ρ',μ',A',?_,h6⟩
  unfold step
  simp only[h1]
  rw[show dst.getD 0=@Option.rec _ (fun _=>Nat) 0 (fun d=>d) dst by cases dst<;>rfl,h3,Option.bind_some,h5]
 ·obtain⟨ρ',h5,h6⟩:=JdX (k:=k) (gd:=gd) (μ:=μ) (A:=A) h2
  refine⟨_,ρ',μ,A,?_,h6⟩
  unfold step
  simp only[h1]
  rw[h5]
def Jjz (κ:Nat→List V→FO) (cl:List Nat) (ops:List Op):Nat→EL V→EL V→ML→AL→SC→FO:=
 @List.rec Op (fun _=>Nat→EL V→EL V→ML→AL→SC→FO) (fun _ _ ρ μ A c=>c ρ μ A) (fun o _ ih i e ρ μ A c=>JfP κ cl o e ρ μ A fun v ρ' μ' A'=>ih (Nat.succ i) (.c i v e) ρ' μ' A' c) ops
theorem JdU {κ:Nat→List V→FO} {cl:List Nat}:∀{ops:List Op} {i:Nat} {e ρ:EL V} {μ:ML} {A:AL} {c:SC} {r:V},Jjz κ cl ops i e ρ μ A c=some r→
  ∃ρ' μ' A',Ju κ ops i (elR e) (den ρ μ A)=some (den ρ' μ' A')∧c ρ' μ' A'=some r
 |[],i,e,ρ,μ,A,c,r,h=>⟨ρ,μ,A,rfl,h⟩
 |o::os,i,e,ρ,μ,A,c,r,h=>by
  change JfP κ cl o e ρ μ A (fun v ρ' μ' A'=>Jjz κ cl os (i+1) (.c i v e) ρ' μ' A' c)=some r at h;obtain⟨v,ρ1,μ1,A1,h1,h2⟩:=JfQ h;obtain⟨ρ2,μ2,A2,h3,h4⟩:=JdU h2;refine⟨ρ2,μ2,A2,?_,h4⟩
  show (step κ o (elR e) (den ρ μ A)).bind _=_
  rw[h1,Option.bind_some];rw[Jbs] at h3;exact h3
theorem Je6 (x h t:Nat):swp x h (swp x h t)=t:=by
 unfold swp;by_cases h1:t=x
 ·subst h1;rw[Gl rfl];split
  ·rename_i q;exact q
  ·rw[Gl rfl]
 ·rw[Gj h1];by_cases h2:t=h
  ·rw[Gl h2,Gl rfl];exact h2.symm
  ·rw[Gj h2,Gj h1,Gj h2]
def JcI (L:List Nat) (n:Nat):EL V→ML→AL→SC→FO:=@Nat.rec (fun _=>List Nat→EL V→ML→AL→SC→FO) (fun _ ρ μ A c=>c ρ μ A) (fun _ ih L ρ μ A c=>match L with
 |s::j::h::l=>JaO (ih l ρ μ A c) (fun m=>match Jam m.1 j with
  |some (V.own x _ _)=>bo (Nat.beq x h) (ih l ρ μ A c) (ih l (elM (Jaj x h) ρ) (elM (fun m=>(m.1.map (JO x h),m.2)) μ) (elK (swp x h) A) c)
  |_=>ih l ρ μ A c) s μ
 |_=>c ρ μ A) n L
theorem Jgy (ρ:EL V) (μ:ML) (A:AL) (x h:Nat):den (elM (Jaj x h) ρ) (elM (fun m=>(m.1.map (JO x h),m.2)) μ) (elK (swp x h) A)=(den ρ μ A).ren x h:=by
 unfold den St.ren
 congr 1
 ·funext t;exact JeV _ rfl _ _
 ·funext t;exact JeU (fun m:List V×Bool=>(m.1.map (JO x h),m.2)) μ t
 ·funext t;exact Jh8 _ (Je6 x h) _ _
theorem Jb3 (x t:Nat):swp x x t=t:=by
 unfold swp;split
 ·rename_i q;exact q.symm
 ·rfl
theorem JfF (S:St) (x:Nat):S.ren x x=S:=by
 have hC:∀v,JO x x v=v:=fun v=>by
  unfold JO;split
  ·rw[Jb3]
  ·rfl
 have hM:∀l:List V,l.map (JO x x)=l:=fun l=>by rw[show JO x x=id from funext hC,List.map_id]
 have hV:∀v,Jaj x x v=v:=fun v=>by
  unfold Jaj;split<;>first|rw[Jb3]|rw[hM]|rfl
 unfold St.ren
 congr 1
 ·funext t;exact hV _
 ·funext t
  show (S.μ t).map _=S.μ t
  cases S.μ t with
  |none=>rfl
  |some m=>simp only[Option.map_some,hM]
 ·funext t;rw[Jb3]
theorem Jd1:∀{n:Nat} {L:List Nat} {ρ:EL V} {μ:ML} {A:AL} {c:SC} {r:V},L.length≤3*n→L.length % 3=0→JcI L n ρ μ A c=some r→∃ρ' μ' A',(den ρ μ A).swps L=den ρ' μ' A'∧c ρ' μ' A'=some r
 |0,L,ρ,μ,A,c,r,hl,_,h=>by
  have:L=[]:=GB (by omega);subst this;exact⟨ρ,μ,A,rfl,h⟩
 |n+1,[],ρ,μ,A,c,r,_,_,h=>⟨ρ,μ,A,rfl,h⟩
 |n+1,[_],ρ,μ,A,c,r,_,_,h=>⟨ρ,μ,A,rfl,h⟩
 |n+1,[_,_],ρ,μ,A,c,r,_,_,h=>⟨ρ,μ,A,rfl,h⟩
 |n+1,s::j::t::l,ρ,μ,A,c,r,hl,hm,h=>by
  simp only[List.length_cons] at hl hm;have ih:=fun {ρ μ A} h=>Jd1 (n:=n) (L:=l) (ρ:=ρ) (μ:=μ) (A:=A) (c:=c) (r:=r) (by omega) (by omega) h;change JaO (JcI l n ρ μ A c) (fun m=>match Jam m.1 j with
   |some (V.own x _ _)=>bo (Nat.beq x t) (JcI l n ρ μ A c) (JcI l n (elM (Jaj x t) ρ) (elM (fun m=>(m.1.map (JO x t),m.2)) μ) (elK (swp x t) A) c)
   |_=>JcI l n ρ μ A c) s μ=some r at h
  rw[JE] at h
  show ∃ρ' μ' A',((den ρ μ A).swp1 s j t).swps l=_∧_
  cases q:elG μ s with
  |none=>
   rw[q] at h;rw[show (den ρ μ A).swp1 s j t=den ρ μ A by unfold St.swp1;simp only[den,q]];exact ih h
  |some m=>
   obtain⟨cs,b⟩:=m;rw[q] at h;change (match Jam cs j with
    |some (V.own x _ _)=>bo (Nat.beq x t) (JcI l n ρ μ A c) (JcI l n (elM (Jaj x t) ρ) (elM (fun m=>(m.1.map (JO x t),m.2)) μ) (elK (swp x t) A) c)
    |_=>JcI l n ρ μ A c)=some r at h
   rw[JV] at h;split at h
   ·rename_i x _ _ qx;rw[show (den ρ μ A).swp1 s j t=(den ρ μ A).ren x t by unfold St.swp1;simp only[den,q,qx]];rcases Jb h with ⟨h1,h2⟩|⟨_,h2⟩
    ·rw[JD h1,JfF];exact ih h2
    ·rw[←Jgy];exact ih h2
   ·rename_i hx;have:(den ρ μ A).swp1 s j t=den ρ μ A:=by
     unfold St.swp1;simp only[den,q]
     try split<;>first|rfl|(rename_i x a b qx;exact absurd qx (hx x a b))
    rw[this];exact ih h
def Jkc (Wv Wa:List Nat) (ρ:EL V) (μ:ML) (A:AL) (c:SC):FO:=bo (Wv.isEmpty&&Wa.isEmpty) (c ρ μ A) (c (elM (Jo Wv Wa) ρ) (elM (fun m=>(m.1.map (JA Wa),m.2)) (elF (inL Wv) μ)) (elF (inL Wa) A))
theorem Jdw (v:V):Jo [] [] v=v:=by cases v<;>simp[Jo]
theorem JcU (S:St):S.scrub [] [] []=S:=by
 unfold St.scrub
 congr 1
 ·funext t;exact Jdw _
 ·funext t
  show (S.μ t).map _=S.μ t
  cases S.μ t<;>rfl
theorem Jfm (l:List V):l.map (JA [])=l:=by
 have:JA []=id:=funext fun v=>by cases v<;>simp[JA]
 rw[this,List.map_id]
theorem JdZ {Wv Wa:List Nat} {ρ:EL V} {μ:ML} {A:AL} {c:SC} {r:V} (h:Jkc Wv Wa ρ μ A c=some r):∃ρ' μ' A',(den ρ μ A).scrub [] Wv Wa=den ρ' μ' A'∧c ρ' μ' A'=some r:=by
 rcases Jb h with ⟨h1,h2⟩|⟨_,h2⟩
 ·rw[Gg,List.isEmpty_iff,List.isEmpty_iff] at h1;rw[h1.1,h1.2,JcU];exact⟨ρ,μ,A,rfl,h2⟩
 ·refine⟨_,_,_,?_,h2⟩;unfold den St.scrub
  congr 1
  ·funext t
   rw[JeV _ rfl];rfl
  ·funext t
   rw[JeU,JcM,Jdo]
   show (if Wv.contains t then none else (elG μ t).map _)=_
   split
   ·rfl
   ·cases q:Wa.isEmpty with
    |false=>rfl
    |true=>
     rw[List.isEmpty_iff] at q;subst q;cases elG μ t with
     |none=>rfl
     |some m=>simp only[Option.map_some,cond_true,Jfm]
  ·funext t
   rw[JcM,Jdo]
def hdF (W L Wv Wa:List Nat) (ρ:EL V) (μ:ML) (A:AL) (c:SC):FO:=@List.rec Nat (fun _=>FO) (@List.rec Nat (fun _=>FO) (Jkc Wv Wa ρ μ A c)
 (fun _ _ _=>bo (Nat.beq (Nat.mod (Js L) 3) 0) (JcI L (Js L) ρ μ A fun ρ' μ' A'=>Jkc Wv Wa ρ' μ' A' c) none) L) (fun _ _ _=>none) W
theorem Ji0 {W L Wv Wa:List Nat} {ρ:EL V} {μ:ML} {A:AL} {c:SC} {r:V} (h:hdF W L Wv Wa ρ μ A c=some r):∃ρ' μ' A',(den ρ μ A).head W L Wv Wa=den ρ' μ' A'∧c ρ' μ' A'=some r:=by
 cases W with
 |cons a W=>cases h
 |nil=>
  unfold St.head;cases L with
  |nil=>exact JdZ h
  |cons a L=>
   change bo (Nat.beq (Nat.mod (Js (a::L)) 3) 0) _ none=some r at h;rcases Jb h with ⟨h1,h2⟩|⟨_,h2⟩<;>try (cases h2;done)
   rw[Jl] at h1 h2;obtain⟨ρ1,μ1,A1,h3,h4⟩:=Jd1 (by omega) (JD h1) h2;rw[h3];exact JdZ h4
def exF (κ:Nat→List V→FO) (cl:List Nat) (n:Nat) (c:C):EL V→ML→AL→SC→SC→(Nat→SC)→FO:=@C.rec (fun _=>EL V→ML→AL→SC→SC→(Nat→SC)→FO)
 (fun ρ μ A kn _ _=>kn ρ μ A)
 (fun _ ops ρ μ A kn _ _=>Jjz κ cl ops 0 .n ρ μ A kn)
 (fun _ _ ia ib ρ μ A kn kr kx=>ia ρ μ A (fun ρ' μ' A'=>ib ρ' μ' A' kn kr kx) kr kx)
 (fun x _ _ ia ib ρ μ A kn kr kx=>axc .n ρ x fun v=>match v with
  |.bool t=>bo t (ia ρ μ A kn kr kx) (ib ρ μ A kn kr kx)
  |_=>none)
 (fun id _ ia ρ μ A kn kr kx=>ia ρ μ A kn kr fun id' ρ' μ' A'=>bo (Nat.beq id' id) (kn ρ' μ' A') (kx id' ρ' μ' A'))
 (fun W L Wv Wa _ ia ρ μ A kn kr kx=>@Nat.rec (fun _=>EL V→ML→AL→FO) (fun _ _ _=>none) (fun _ ih ρ μ A=>hdF W L Wv Wa ρ μ A fun ρ' μ' A'=>ia ρ' μ' A' ih kr kx) n ρ μ A)
 (fun id ρ μ A _ _ kx=>kx id ρ μ A)
 (fun ρ μ A _ kr _=>kr ρ μ A) c
def Jif (kn kr:SC) (kx:Nat→SC) (ex:Ex) (ρ:EL V) (μ:ML) (A:AL):FO:=match ex with
 |.norm=>kn ρ μ A
 |.ret=>kr ρ μ A
 |.exit id=>kx id ρ μ A
theorem Jaz {κ:Nat→List V→FO} {cl:List Nat} {n:Nat}:∀(c:C) {ρ:EL V} {μ:ML} {A:AL} {kn kr:SC} {kx:Nat→SC} {r:V},exF κ cl n c ρ μ A kn kr kx=some r→
  ∃m ex ρ' μ' A',Jd κ m c (den ρ μ A)=some (ex,den ρ' μ' A')∧Jif kn kr kx ex ρ' μ' A'=some r
 |.skip,ρ,μ,A,kn,kr,kx,r,h=>⟨1,.norm,ρ,μ,A,rfl,h⟩
 |.region b ops,ρ,μ,A,kn,kr,kx,r,h=>by
  obtain⟨ρ',μ',A',h1,h2⟩:=JdU h;refine⟨1,.norm,ρ',μ',A',?_,h2⟩
  show (Ju κ ops 0 (fun _=>.undef) (den ρ μ A)).bind _=_
  rw[show (fun _=>V.undef)=elR (.n:EL V) from rfl,h1];rfl
 |.seq a b,ρ,μ,A,kn,kr,kx,r,h=>by
  obtain⟨m1,ex,ρ1,μ1,A1,h1,h2⟩:=Jaz a h;cases ex with
  |norm=>
   obtain⟨m2,ex2,ρ2,μ2,A2,h3,h4⟩:=Jaz b h2;refine⟨max m1 m2+1,ex2,ρ2,μ2,A2,?_,h4⟩
   show (Jd κ (max m1 m2) a (den ρ μ A)).bind _=_
   rw[Jm (Le.refl κ) (GY m1 m2) h1,Option.bind_some];exact Jm (Le.refl κ) (GV m1 m2) h3
  |ret=>exact⟨m1+1,.ret,ρ1,μ1,A1,by show (Jd κ m1 a (den ρ μ A)).bind _=_;rw[h1];rfl,h2⟩
  |exit id=>exact⟨m1+1,.exit id,ρ1,μ1,A1,by show (Jd κ m1 a (den ρ μ A)).bind _=_;rw[h1];rfl,h2⟩
 |.cond x a b,ρ,μ,A,kn,kr,kx,r,h=>by
  change axc .n ρ x (fun v=>match v with
   |.bool t=>bo t (exF κ cl n a ρ μ A kn kr kx) (exF κ cl n b ρ μ A kn kr kx)
   |_=>none)=some r at h
  rw[Jj] at h;split at h<;>try (cases h;done)
  rename_i t q;rcases Jb h with ⟨h1,h2⟩|⟨h1,h2⟩
  ·obtain⟨m,ex,ρ1,μ1,A1,h3,h4⟩:=Jaz a h2;refine⟨m+1,ex,ρ1,μ1,A1,?_,h4⟩;simp only[Jd,den];rw[show argv (fun _=>V.undef) (elR ρ) x=_ from q,h1];exact h3
  ·obtain⟨m,ex,ρ1,μ1,A1,h3,h4⟩:=Jaz b h2;refine⟨m+1,ex,ρ1,μ1,A1,?_,h4⟩;simp only[Jd,den];rw[show argv (fun _=>V.undef) (elR ρ) x=_ from q,h1];exact h3
 |.block id c,ρ,μ,A,kn,kr,kx,r,h=>by
  obtain⟨m,ex,ρ1,μ1,A1,h1,h2⟩:=Jaz c h;cases ex with
  |norm=>exact⟨m+1,.norm,ρ1,μ1,A1,by show (Jd κ m c (den ρ μ A)).bind _=_;rw[h1];rfl,h2⟩
  |ret=>exact⟨m+1,.ret,ρ1,μ1,A1,by show (Jd κ m c (den ρ μ A)).bind _=_;rw[h1];rfl,h2⟩
  |exit id'=>
   change bo (Nat.beq id' id) (kn ρ1 μ1 A1) (kx id' ρ1 μ1 A1)=some r at h2;by_cases q:id'=id
   ·subst q;rw[Nat.beq_refl] at h2;refine⟨m+1,.norm,ρ1,μ1,A1,?_,h2⟩
    show (Jd κ m c (den ρ μ A)).bind _=_
    rw[h1,Option.bind_some];exact Gl rfl
   ·rw[Jb7 q] at h2;refine⟨m+1,.exit id',ρ1,μ1,A1,?_,h2⟩
    show (Jd κ m c (den ρ μ A)).bind _=_
    rw[h1,Option.bind_some];exact Gj q
 |.loop W L Wv Wa c,ρ,μ,A,kn,kr,kx,r,h=>by
  have key:∀(n':Nat) {ρ μ A},@Nat.rec (fun _=>EL V→ML→AL→FO) (fun _ _ _=>none) (fun _ ih ρ μ A=>hdF W L Wv Wa ρ μ A fun ρ' μ' A'=>exF κ cl n c ρ' μ' A' ih kr kx) n' ρ μ A=some r→
    ∃m ex ρ' μ' A',Jd κ m (.loop W L Wv Wa c) (den ρ μ A)=some (ex,den ρ' μ' A')∧Jif kn kr kx ex ρ' μ' A'=some r:=by
   intro n'
   induction n' with
   |zero=>intro ρ μ A h;cases h
   |succ n' ih=>
    intro ρ μ A h
    obtain⟨ρ0,μ0,A0,h1,h2⟩:=Ji0 h
    obtain⟨m1,ex,ρ1,μ1,A1,h3,h4⟩:=Jaz c h2
    cases ex with
    |norm=>
     obtain⟨m2,ex2,ρ2,μ2,A2,h5,h6⟩:=ih h4
     refine⟨max m1 m2+1,ex2,ρ2,μ2,A2,?_,h6⟩
     show (Jd κ (max m1 m2) c ((den ρ μ A).head W L Wv Wa)).bind _=_
     rw[h1,Jm (Le.refl κ) (GY m1 m2) h3,Option.bind_some]
     exact Jm (Le.refl κ) (GV m1 m2) h5
    |ret=>exact⟨m1+1,.ret,ρ1,μ1,A1,by show (Jd κ m1 c ((den ρ μ A).head W L Wv Wa)).bind _=_;rw[h1,h3];rfl,h4⟩
    |exit id=>exact⟨m1+1,.exit id,ρ1,μ1,A1,by show (Jd κ m1 c ((den ρ μ A).head W L Wv Wa)).bind _=_;rw[h1,h3];rfl,h4⟩
  exact key n h
 |.exit id,ρ,μ,A,kn,kr,kx,r,h=>⟨1,.exit id,ρ,μ,A,rfl,h⟩
 |.ret,ρ,μ,A,kn,kr,kx,r,h=>⟨1,.ret,ρ,μ,A,rfl,h⟩
def clsO (ops:List Op):List Nat:=@List.rec Op (fun _=>List Nat) [] (fun o _ ih=>bo o.gl (@Option.rec Nat (fun _=>List Nat) ih (fun d=>d::ih) o.dst) ih) ops
def JkM (c:C):Bool→List Nat:=@C.rec (fun _=>Bool→List Nat) (fun _=>[]) (fun _ ops b=>bo b (clsO ops) []) (fun _ _ ia ib b=>JbH (ia b) (ib b)) (fun _ _ _ ia ib b=>JbH (ia b) (ib b)) (fun _ _ ia b=>ia b) (fun _ _ _ _ _ ia _=>ia true) (fun _ _=>[]) (fun _=>[]) c
def natN (n:Nat) (k:Nat→FO):FO:=@Nat.rec (fun _=>FO) (k 0) (fun m _=>k (Nat.succ m)) n
theorem JU (n:Nat) (k:Nat→FO):natN n k=k n:=by cases n<;>rfl
def JlA (n:Int) (k:Int→FO):FO:=@Int.rec (fun _=>FO) (fun m=>natN m fun m=>k (Int.ofNat m)) (fun m=>natN m fun m=>k (Int.negSucc m)) n
theorem JgV (n:Int) (k:Int→FO):JlA n k=k n:=by
 cases n with
 |ofNat m=>exact JU m (fun m=>k (Int.ofNat m))
 |negSucc m=>exact JU m (fun m=>k (Int.negSucc m))
def Jkf (s:List UInt8):(List UInt8→FO)→FO:=@List.rec UInt8 (fun _=>(List UInt8→FO)→FO) (fun k=>k []) (fun b _ ih k=>natN b.toNat fun m=>ih fun t=>k (UInt8.ofNat m::t)) s
theorem Jd0:∀(s:List UInt8) (k:List UInt8→FO),Jkf s k=k s
 |[],k=>rfl
 |b::s,k=>by
  show natN b.toNat (fun m=>Jkf s fun t=>k (UInt8.ofNat m::t))=_
  rw[JU,Jd0 s,UInt8.ofNat_toNat]
abbrev Jac:Type:=(V→FO)→FO
abbrev NL:Type:=(List V→FO)→FO
abbrev NR:Type:=(List (List V)→FO)→FO
def nvU:Jac:=fun k=>k .undef
def nvB (b:Bool):Jac:=fun k=>@Bool.rec (fun _=>FO) (k (.bool false)) (k (.bool true)) b
def nvI (i:IntKind) (n:Int):Jac:=fun k=>JlA n fun n=>k (.int i n)
def nvS (s:List UInt8):Jac:=fun k=>Jkf s fun s=>k (.str s)
def nvA (_:List V) (ih:NL):Jac:=fun k=>ih fun l=>k (.agg l)
def nvZ (z:Nat) (_:List (List V)) (ih:NR):Jac:=fun k=>natN z fun z=>ih fun l=>k (.slice z l)
def nvT (_:List V) (ih:NL):Jac:=fun k=>ih fun l=>k (.tuple l)
def nvF (f:Nat) (_:List V) (ih:NL):Jac:=fun k=>natN f fun f=>ih fun l=>k (.func f l)
def nvP (_:List V) (o:Nat) (ih:NL):Jac:=fun k=>natN o fun o=>ih fun l=>k (.cptr l o)
def nvL (s o:Nat):Jac:=fun k=>natN s fun s=>natN o fun o=>k (.lref s o)
def nvE (s i o n:Nat):Jac:=fun k=>k (.eref s i o n)
def nvO (s z n:Nat):Jac:=fun k=>k (.own s z n)
def nvX (t:Nat) (_:V) (ih:Jac):Jac:=fun k=>natN t fun t=>ih fun v=>k (.iface t v)
def nvN:Jac:=fun k=>k .niface
def nvK (z:Nat):Jac:=fun k=>natN z fun z=>k (.nslice z)
def nvY (z:Nat) (_:List (List V)) (ih:NR):Jac:=fun k=>natN z fun z=>ih fun l=>k (.xslice z l)
def nvn:NL:=fun k=>k []
def nvc (_:V) (_:List V) (ia:Jac) (ib:NL):NL:=fun k=>ia fun a=>ib fun l=>k (a::l)
def nvm:NR:=fun k=>k []
def nvd (_:List V) (_:List (List V)) (ia:NL) (ib:NR):NR:=fun k=>ia fun a=>ib fun l=>k (a::l)
def JfW (v:V):Jac:=@V.rec (fun _=>Jac) (fun _=>NL) (fun _=>NR) nvU nvB nvI nvS nvA nvZ nvT nvF nvP nvL nvE nvO nvX nvN nvK nvY nvn nvc nvm nvd v
def JhV (v:List V):NL:=@V.rec_1 (fun _=>Jac) (fun _=>NL) (fun _=>NR) nvU nvB nvI nvS nvA nvZ nvT nvF nvP nvL nvE nvO nvX nvN nvK nvY nvn nvc nvm nvd v
def JhW (v:List (List V)):NR:=@V.rec_2 (fun _=>Jac) (fun _=>NL) (fun _=>NR) nvU nvB nvI nvS nvA nvZ nvT nvF nvP nvL nvE nvO nvX nvN nvK nvY nvn nvc nvm nvd v
theorem JhX (v:V):∀k,JfW v k=k v:=@V.rec (fun v=>∀k,JfW v k=k v) (fun l=>∀k,JhV l k=k l) (fun l=>∀k,JhW l k=k l)
 (fun k=>rfl) (fun b k=>by cases b<;>rfl) (fun i n k=>JgV n fun n=>k (.int i n)) (fun s k=>Jd0 s fun s=>k (.str s))
 (fun l ih k=>ih fun l=>k (.agg l)) (fun z l ih k=>(JU z fun z=>JhW l fun l=>k (.slice z l)).trans (ih fun l=>k (.slice z l))) (fun l ih k=>ih fun l=>k (.tuple l))
 (fun f l ih k=>(JU f fun f=>JhV l fun l=>k (.func f l)).trans (ih fun l=>k (.func f l))) (fun l o ih k=>(JU o fun o=>JhV l fun l=>k (.cptr l o)).trans (ih fun l=>k (.cptr l o)))
 (fun s o k=>(JU s fun s=>natN o fun o=>k (.lref s o)).trans (JU o fun o=>k (.lref s o))) (fun s i o n k=>rfl) (fun s z n k=>rfl)
 (fun t v ih k=>(JU t fun t=>JfW v fun v=>k (.iface t v)).trans (ih fun v=>k (.iface t v))) (fun k=>rfl) (fun z k=>JU z fun z=>k (.nslice z))
 (fun z l ih k=>(JU z fun z=>JhW l fun l=>k (.xslice z l)).trans (ih fun l=>k (.xslice z l)))
 (fun k=>rfl) (fun a l ia ib k=>(ia fun a=>JhV l fun l=>k (a::l)).trans (ib fun l=>k (a::l))) (fun k=>rfl) (fun a l ia ib k=>(ia fun a=>JhW l fun l=>k (a::l)).trans (ib fun l=>k (a::l))) v
def Jda (l:List V):(List V→FO)→FO:=@List.rec V (fun _=>(List V→FO)→FO) (fun k=>k []) (fun v _ ih k=>JfW v fun v=>ih fun t=>k (v::t)) l
theorem Jdb:∀(l:List V) (k:List V→FO),Jda l k=k l
 |[],k=>rfl
 |v::l,k=>by
  show JfW v (fun v=>Jda l fun t=>k (v::t))=_
  rw[JhX,Jdb l]
structure Ft where
 f:Nat
 x:Fn
 rk:Option Nat
inductive FTr where
 |leaf
 |node (a:Ft) (cl:List Nat) (l r:FTr)
def JkN (x:Fn):List Nat:=@Fn.rec (fun _=>List Nat) (fun F=>JkM F.body false) (fun _ _=>[]) (fun F _=>JkM F.body false) x
def trG (t:FTr) (f:Nat) (c:Fn→Option Nat→List Nat→FO):FO:=@FTr.rec (fun _=>FO) none (fun a cl _ _ il ir=>@Ft.rec (fun _=>FO) (fun g x m=>bo (Nat.beq f g) (c x m cl) (bo (Nat.blt f g) il ir)) a) t
def trN (a:List Ft) (f g:List Ft→FTr) (l:List Ft):FTr:=@List.rec Ft (fun _=>FTr) .leaf (fun x r _=>.node x (JkN x.x) (f a) (g r)) l
def JaY (n:Nat):List Ft→FTr:=@Nat.rec (fun _=>List Ft→FTr) (fun _=>.leaf) (fun _ ih l=>trN (JcJ l (Nat.div (Js l) 2)) ih ih (Jcu l (Nat.div (Js l) 2))) n
theorem JbD {f:Nat} {c:Fn→Option Nat→List Nat→FO} {r:V}:∀(n:Nat) (l:List Ft),trG (JaY n l) f c=some r→∃a cl,a∈l∧a.f=f∧c a.x a.rk cl=some r
 |0,l,h=>by cases h
 |n+1,l,h=>by
  change trG (trN (JcJ l (Nat.div (Js l) 2)) (JaY n) (JaY n) (Jcu l (Nat.div (Js l) 2))) f c=some r at h;rw[Jbj,Ja8] at h;have hm:∀y,y∈l.take (Nat.div (Js l) 2)∨y∈l.drop (Nat.div (Js l) 2)→y∈l:=fun y hy=>by
   rcases hy with hy|hy
   ·exact List.mem_of_mem_take hy
   ·exact G6 hy
  generalize l.take (Nat.div (Js l) 2)=u at h hm;generalize l.drop (Nat.div (Js l) 2)=w at h hm;cases w with
  |nil=>cases h
  |cons a t=>
   change bo (Nat.beq f a.f) (c a.x a.rk (JkN a.x)) (bo (Nat.blt f a.f) (trG (JaY n u) f c) (trG (JaY n t) f c))=some r at h;rcases Jb h with ⟨h1,h2⟩|⟨_,h2⟩
   ·exact⟨a,_,hm _ (.inr (.head _)),(JD h1).symm,h2⟩
   ·rcases Jb h2 with ⟨_,h3⟩|⟨_,h3⟩
    ·obtain⟨b,cl,hb,h4⟩:=JbD n u h3;exact⟨b,cl,hm _ (.inl hb),h4⟩
    ·obtain⟨b,cl,hb,h4⟩:=JbD n t h3;exact⟨b,cl,hm _ (.inr (.tail _ hb)),h4⟩
def JcY (args:List V):Nat→EL V:=@List.rec V (fun _=>Nat→EL V) (fun _=>.n) (fun a _ ih i=>.c i a (ih (Nat.succ i))) args
theorem Jcv:∀(args:List V) (i t:Nat),elR (JcY args i) (i+t)=(args[t]?).getD .undef
 |[],i,t=>rfl
 |a::l,i,t=>by
  show bo (Nat.beq i (i+t)) a (elR (JcY l (i+1)) (i+t))=_
  cases t with
  |zero=>rw[show Nat.beq i (i+0)=true from Nat.beq_refl i];rfl
  |succ t=>
   rw[Jb7 (show i≠i+(t+1) by omega)]
   show elR (JcY l (i+1)) (i+(t+1))=_
   rw[show i+(t+1)=(i+1)+t by omega,Jcv l (i+1) t]
   rfl
theorem Jex (args:List V):den (JcY args 0) .n .n=start args:=by
 unfold den start
 congr 1
 funext t
 have:=Jcv args 0 t;rw[G7] at this;exact this
def Jlo (F:F) (ρ:EL V) (μ:ML) (A:AL):FO:=Jad F (den ρ μ A)
def Jia (F:F) (k:Nat) (ρ:EL V) (μ:ML) (A:AL):FO:=JaM F k (den ρ μ A)
def fn1 (κ:Nat→List V→FO) (n:Nat) (args:List V) (cl:List Nat) (x:Fn):FO:=@Fn.rec (fun _=>FO)
 (fun F=>bo (Nat.beq (Js args) F.np) (exF κ cl n F.body (JcY args 0) .n .n (Jlo F) (Jlo F) (fun _ _ _ _=>none)) none)
 (fun _ p=>p args)
 (fun F k=>bo (Nat.beq (Js args) F.np) (oc (Jam args k) fun x=>match x with
  |.tuple (.lref 0 0::cs)=>taL cs 9000 .n fun ts A=>exF κ cl n F.body (.c k (.lref k 0) (JcY args 0)) (.c k (ts,false) .n) A (Jia F k) (Jia F k) (fun _ _ _ _=>none)
  |_=>none) none) x
def JcO (T:FTr) (n:Nat) (mu:Nat→Nat→List V→FO) (m:Nat):Nat→List V→FO:=
 @Nat.rec (fun _=>Nat→List V→FO) (fun _ _=>none) (fun _ ih f args=>trG T f fun x rk cl=>@Option.rec _ (fun _=>FO) (fn1 ih n args cl x) (fun j=>Jda args fun a=>mu j f a) rk) m
def muT (T:FTr) (n m:Nat) (r:Nat):Nat→Nat→List V→FO:=@Nat.rec (fun _=>Nat→Nat→List V→FO) (fun _ _ _=>none)
 (fun r ih j f a=>bo (Nat.beq j r) (trG T f fun x _ cl=>fn1 (JcO T n ih m) n a cl x) (ih j f a)) r
def Jmq (l:List Ft) (d n m r:Nat) (f:Nat) (args:List V):FO:=JcO (JaY d l) n (muT (JaY d l) n m r) m f args
variable {Pg:Nat→Option Fn}
def Jf2 (Pg:Nat→Option Fn) (f:Nat) (x:Fn):Prop:=Pg f=some x∨∃o p,x=.prim o p∧∀a r,p a=some r→K' Pg f a=some r
theorem Je1 {κ:Nat→List V→FO} (ih:Le κ (K' Pg)) {n f:Nat} {a:List V} {cl:List Nat} {x:Fn} {r:V} (h3:Jf2 Pg f x) (h2:fn1 κ n a cl x=some r):K' Pg f a=some r:=by
 cases x with
 |code F=>
  rcases h3 with h3|⟨o,p,e,-⟩
  ·rcases Jb h2 with ⟨h4,h5⟩|⟨_,h5⟩<;>try (cases h5;done)
   rw[Jl] at h4;obtain⟨m',ex,ρ',μ',A',h6,h7⟩:=Jaz _ h5;rw[Jex] at h6;refine K'_codeP h3 (JD h4) ⟨m',ex,_,Jm ih (Gm m') h6,?_⟩;cases ex with
   |norm=>exact⟨.inl rfl,h7⟩
   |ret=>exact⟨.inr rfl,h7⟩
   |exit id=>cases h7
  ·cases e
 |prim o p=>
  change p a=some r at h2;rcases h3 with h3|⟨o',p',e,h3⟩
  ·rw[Jf3 h3];exact h2
  ·cases e;exact h3 _ _ h2
 |codeR F k=>
  rcases h3 with h3|⟨o,p,e,-⟩
  ·rcases Jb h2 with ⟨h4,h5⟩|⟨_,h5⟩<;>try (cases h5;done)
   rw[Jl] at h4;obtain⟨x,h6,h7⟩:=Jf h5;rw[JV] at h6;split at h7<;>try (cases h7;done)
   rename_i cs;obtain⟨ts,A,h8,h9⟩:=Jb4 h7;obtain⟨m',ex,ρ',μ',A',h10,h11⟩:=Jaz _ h9;have hs:startR a k cs=some (den (.c k (.lref k 0) (JcY a 0)) (.c k (ts,false) .n) A):=by
    unfold startR;rw[show (fun _=>none:AA)=elG (.n:AL) from rfl,h8,Option.bind_some]
    congr 1
    unfold den
    congr 1
    ·rw[Jbs]
     funext t
     have:=Jcv a 0 t;rw[G7] at this
     show _=upd (elR (JcY a 0)) k (V.lref k 0) t
     unfold upd;rw[this]
    ·rw[Jcc];rfl
   refine Qa h3 (JD h4) h6 hs ⟨m',ex,_,Jm ih (Gm m') h10,?_⟩;cases ex with
   |norm=>exact⟨.inl rfl,h11⟩
   |ret=>exact⟨.inr rfl,h11⟩
   |exit id=>cases h11
  ·cases e
theorem JbO {l:List Ft} {d n:Nat} (hT:∀a∈l,Jf2 Pg a.f a.x) {mu:Nat→Nat→List V→FO} (hm:∀j f a r,mu j f a=some r→K' Pg f a=some r):∀m,Le (JcO (JaY d l) n mu m) (K' Pg)
 |0=>fun f a r h=>by cases h
 |m+1=>fun f a r hr=>by
  have ih:=JbO (d:=d) (n:=n) hT hm m;have hr:trG (JaY d l) f (fun x rk cl=>@Option.rec _ (fun _=>FO) (fn1 (JcO (JaY d l) n mu m) n a cl x) (fun j=>Jda a fun a=>mu j f a) rk)=some r:=hr;obtain⟨b,cl,hb,hf,h1⟩:=JbD d l hr;subst hf;cases q:b.rk with
  |none=>rw[q] at h1;exact Je1 ih (hT b hb) h1
  |some j=>
   rw[q] at h1;change Jda a (fun a=>mu j b.f a)=some r at h1;rw[Jdb] at h1;exact hm _ _ _ _ h1
theorem Jfo {l:List Ft} {d n m:Nat} (hT:∀a∈l,Jf2 Pg a.f a.x):∀r j f a v,muT (JaY d l) n m r j f a=some v→K' Pg f a=some v
 |0,j,f,a,v,h=>by cases h
 |r+1,j,f,a,v,h=>by
  have ih:=Jfo (d:=d) (n:=n) (m:=m) hT r;have h:bo (Nat.beq j r) (trG (JaY d l) f fun x _ cl=>fn1 (JcO (JaY d l) n (muT (JaY d l) n m r) m) n a cl x) (muT (JaY d l) n m r j f a)=some v:=h;rcases Jb h with ⟨_,h1⟩|⟨_,h1⟩
  ·obtain⟨b,cl,hb,hf,h2⟩:=JbD d l h1;subst hf;exact Je1 (JbO hT ih m) (hT b hb) h2
  ·exact ih _ _ _ _ h1
theorem frun_ok {l:List Ft} {d n m r f:Nat} {a:List V} {v:V} (hT:∀a∈l,Jf2 Pg a.f a.x) (h:Jmq l d n m r f a=some v):K' Pg f a=some v:=
 JbO hT (Jfo hT r) m f a v h
end
end Sg
namespace Sg
open Go Go.RowKit Go.Lib Go.Proofs
variable {P : Program} {Z : Nat} {TS EL : TypeId}
theorem ins_p1 (t24:P.underlying TS=some (.slice EL)) (hsz:(P.info? EL).map (·.size)=some Z) (b off n c i vb voff m vc:Nat) (cs vs:List Value) (w:World) (hi:i<n) (hm:0<m) (hvb:vb≠b)
  (hcl:cs.length=n*Z) (hvl:vs.length=m*Z)
  (hcs:∀j v,cs[j]?=some v→w.cell? ⟨b,off+j,none⟩=some v) (hsp:∀j,j<(n+m)*Z→(w.cell? ⟨b,off+j,none⟩).isSome=true) (hfz:∀j,w.frozen? ⟨b,j,none⟩=false)
  (hvs:∀j v,vs[j]?=some v→w.cell? ⟨vb,voff+j,none⟩=some v) (h1c:∀v∈cs,v.oneCell'=true) (h1v:∀v∈vs,v.oneCell'=true) :
  ∃W1,W1=w.drew.setCells b (off+(i+m)*Z) (cs.drop (i*Z))∧
  (∀ty dc sc,(Builtin.copy_ #[TS,TS] ty #[.slice (some ⟨b,off+(i+m)*Z,none⟩) (n+m-(i+m)) dc,.slice (some ⟨b,off+i*Z,none⟩) (n+m-i) sc]).run P w.drew=.ok (goInt (n-i:Nat)) W1)∧
  ∀(W:World),(∀x,W.cell? x=W1.cell? x)→(∀x,W.frozen? x=W1.frozen? x)→∀ty dc,(Builtin.copy_ #[TS,TS] ty #[.slice (some ⟨b,off+i*Z,none⟩) (n+m-i) dc,.slice (some ⟨vb,voff,none⟩) m vc]).run P W=.ok (goInt (m:Nat)) (W.setCells b (off+i*Z) vs):=by
 have e1:(i+m)*Z=i*Z+m*Z:=GT ..
 have e2:(n+m)*Z=n*Z+m*Z:=GT ..
 have e3:(n-i)*Z=n*Z-i*Z:=Nat.sub_mul ..
 have e4:i*Z≤n*Z:=Gq _ (by omega)
 have hdl:(cs.drop (i*Z)).length=(n-i)*Z:=by rw[Gu,hcl];omega
 refine⟨_,rfl,fun ty dc sc=>?_,fun W hWc hWf ty dc=>?_⟩
 ·exact Jas Z w.drew _ _ ty EL b (off+(i+m)*Z) (n+m-(i+m)) dc ⟨b,off+i*Z,none⟩ (n+m-i) sc (cs.drop (i*Z)) (n-i) t24 hsz (by simp only[Nat.min_def];split<;>omega) (by rw[hdl])
   (fun j v hj=>by rw[Addr.add_lit,GU];exact hcs (i*Z+j) v (by rwa [List.getElem?_drop] at hj))
   (fun j hj=>by rw[GU];exact hsp _ (by omega)) (fun j hj=>hfz _) (fun v hv=>h1c v (G6 hv))
 ·have hsp1:∀k,k<(n+m)*Z→((w.drew.setCells b (off+(i+m)*Z) (cs.drop (i*Z))).cell? ⟨b,off+k,none⟩).isSome=true:=fun k hk=>
   isSome_setK b _ _ _ (fun j hj=>by rw[GU];exact hsp _ (by omega)) _ (hsp k hk)
  exact Jas Z W _ _ ty EL b (off+i*Z) (n+m-i) dc ⟨vb,voff,none⟩ m vc vs m t24 hsz (by simp only[Nat.min_def];split<;>omega) hvl
   (fun j v hj=>by
    rw[Addr.add_lit,hWc,World.cell?_setCells_out b _ _ _ _ (fun h _=>absurd h hvb)];exact hvs j v hj)
   (fun j hj=>by rw[hWc,GU];exact hsp1 _ (by omega)) (fun j hj=>by rw[hWf,World.frozen?_setCells];exact hfz _) h1v
theorem ins_p2 (t24:P.underlying TS=some (.slice EL)) (t3:P.underlying 3=some (.int .i64)) (i0:TypeInfo) (zv:Value) (hi0:P.info? EL=some i0) (hz0:i0.zero=some zv) (hzs:i0.size=Z) (hZ:0<Z) (hby:i0.bytes≤65536) (hzc:∀k,(Builtin.zeroCells zv.cells k).size=k*Z)
  (b off n c i vb voff m vc:Nat) (cs vs:List Value) (w:World) (hi:i<n) (hm:0<m) (hnc:n≤c) (hroom:c<n+m) (hlim:n+m≤1073741824)
  (hcl:cs.length=n*Z) (hvl:vs.length=m*Z) (hbw:b<w.heap.size) (hvw:vb<w.heap.size)
  (hcs:∀j v,cs[j]?=some v→w.cell? ⟨b,off+j,none⟩=some v)
  (hvs:∀j v,vs[j]?=some v→w.cell? ⟨vb,voff+j,none⟩=some v) (h1c:∀v∈cs,v.oneCell'=true) (h1v:∀v∈vs,v.oneCell'=true) :
  ∃(G:Nat) (ROW:Array Value),n+m≤G∧(n+m)*Z≤ROW.size∧ROW.size=G*Z∧(∀(j:Nat) (v:Value),(cs.take (i*Z))[j]?=some v→ROW[j]?=some v)∧G≤9223372036854775807∧
  (∀ty,(Builtin.append_ #[TS,3] ty #[.slice (some ⟨b,off,none⟩) i c,.int .i64 ((n:Int)+(m:Int)-(i:Int))]).run P w=.ok (.slice (some ⟨w.heap.size,0,none⟩) (n+m) G) (w.drew.alloc (.cells ROW EL)))∧
  (∀(W:World),(∀x,W.cell? x=(w.drew.alloc (.cells ROW EL)).cell? x)→(∀x,W.frozen? x=(w.drew.alloc (.cells ROW EL)).frozen? x)→∀ty dc,(Builtin.copy_ #[TS,TS] ty #[.slice (some ⟨w.heap.size,i*Z,none⟩) (n+m-i) dc,.slice (some ⟨vb,voff,none⟩) m vc]).run P W=.ok (goInt (m:Nat)) (W.setCells w.heap.size (i*Z) vs))∧
  ∀(W:World),(∀x,W.cell? x=((w.drew.alloc (.cells ROW EL)).setCells w.heap.size (i*Z) vs).cell? x)→(∀x,W.frozen? x=((w.drew.alloc (.cells ROW EL)).setCells w.heap.size (i*Z) vs).frozen? x)→∀ty dc sc,(Builtin.copy_ #[TS,TS] ty #[.slice (some ⟨w.heap.size,(i+m)*Z,none⟩) (n+m-(i+m)) dc,.slice (some ⟨b,off+i*Z,none⟩) (n-i) sc]).run P W=.ok (goInt (n-i:Nat)) (W.setCells w.heap.size ((i+m)*Z) (cs.drop (i*Z))):=by
 have e1:(i+m)*Z=i*Z+m*Z:=GT ..
 have e2:(n+m)*Z=n*Z+m*Z:=GT ..
 have e3:(n-i)*Z=n*Z-i*Z:=Nat.sub_mul ..
 have e5:(n+m-i)*Z=n*Z+m*Z-i*Z:=by rw[Nat.sub_mul,e2]
 have e4:i*Z≤n*Z:=Gq _ (by omega)
 have hsz:(P.info? EL).map (·.size)=some Z:=by rw[hi0];simp[hzs]
 have hkk:(n:Int)+(m:Int)-(i:Int)=((n+m-i:Nat):Int):=by omega
 have hik:i+(n+m-i)=n+m:=by omega
 have hold:(Builtin.firstCells i0.size i (.slice (some ⟨b,off,none⟩) i c)).run P w.drew=.ok (cs.take (i*Z)).toArray w.drew:=by
  rw[hzs];exact run_firstCells_some w.drew Z i ⟨b,off,none⟩ i c (cs.take (i*Z)) (by rw[Gy];omega) (fun j v hj=>by
   rw[Addr.add_lit];rw[List.getElem?_take] at hj;split at hj
   ·exact hcs j v hj
   ·cases hj)
 have b1:(n+m-i)*i0.bytes≤1073741824*65536:=Nat.mul_le_mul (by omega) hby
 have b2:(n+m)*i0.bytes≤1073741824*65536:=Nat.mul_le_mul hlim hby
 have hrz:∀ty,(Builtin.append_ #[TS,3] ty #[.slice (some ⟨b,off,none⟩) i c,.int .i64 ((n:Int)+(m:Int)-(i:Int))]).run P w=
   .ok (.slice (some ⟨w.heap.size,0,none⟩) (n+m) (grownCap w (n+m) c EL)) (w.drew.alloc (.cells ((cs.take (i*Z)).toArray++Builtin.zeroCells zv.cells (n+m-i)++Builtin.zeroCells zv.cells (grownCap w (n+m) c EL-(n+m))) EL)):=fun ty=>by
  have h:=Lib.run_append_grow_zeros w TS 3 ty EL i0 _ .i64 .i64 t24 t3 hi0 hz0 (some ⟨b,off,none⟩) i c (cs.take (i*Z)) hold (n+m-i) (by omega) (by omega) (by omega) (by omega) (by omega) (by rw[hik];exact growslice_fits hroom (by omega))
  rw[hik] at h
  rw[hkk]
  exact h
 obtain⟨G,hG⟩:∃G,G=grownCap w (n+m) c EL:=⟨_,rfl⟩
 obtain⟨ROW,hROW⟩:∃ROW:Array Value,ROW=(cs.take (i*Z)).toArray++Builtin.zeroCells zv.cells (n+m-i)++Builtin.zeroCells zv.cells (G-(n+m)):=⟨_,rfl⟩
 rw[←hG] at hrz
 rw[←hROW] at hrz
 have hGn:n+m≤G:=by rw[hG];exact grownCap_ge w _ _ _
 have e6:(G-(n+m))*Z=G*Z-(n+m)*Z:=Nat.sub_mul ..
 have e7:(n+m)*Z≤G*Z:=Gq _ hGn
 have hRs:ROW.size=G*Z:=by
  rw[hROW,Array.size_append,Array.size_append,hzc,hzc,GX,Gy];omega
 have hRl:(n+m)*Z≤ROW.size:=by rw[hRs];omega
 have hRt:∀(j:Nat) v,(cs.take (i*Z))[j]?=some v→ROW[j]?=some v:=fun j v hj=>by
  have hjl:j<(cs.take (i*Z)).length:=by
   rcases Gt j (cs.take (i*Z)).length with h|h
   ·exact h
   ·rw[List.getElem?_eq_none h] at hj;simp at hj
  rw[hROW,Array.append_assoc,Array.getElem?_append_left (by simpa using hjl)];simpa using hj
 have hN:∀j,j<(n+m)*Z→((w.drew.alloc (.cells ROW EL)).cell? ⟨w.heap.size,j,none⟩).isSome=true:=fun j hj=>by
  rw[World.cell?_alloc_at (w:=w.drew) ROW _ w.heap.size j rfl,Array.getElem?_eq_getElem (by omega)];rfl
 have hNf:∀j,(w.drew.alloc (.cells ROW EL)).frozen? ⟨w.heap.size,j,none⟩=false:=fun j=>World.frozen?_alloc_at (w:=w.drew) ROW _ w.heap.size j rfl
 have hOb:∀j v,w.cell? ⟨b,j,none⟩=some v→(w.drew.alloc (.cells ROW EL)).cell? ⟨b,j,none⟩=some v:=fun j v h=>by rw[World.cell?_alloc_past (w:=w.drew) _ b j hbw];exact h
 have hOv:∀j v,w.cell? ⟨vb,j,none⟩=some v→(w.drew.alloc (.cells ROW EL)).cell? ⟨vb,j,none⟩=some v:=fun j v h=>by rw[World.cell?_alloc_past (w:=w.drew) _ vb j hvw];exact h
 have hG63:G≤9223372036854775807:=by
  have:=grownCap_le_maxLen w (n+m) c EL (by unfold maxLen;omega);rw[←hG] at this;unfold maxLen at this;omega
 have hbN:b≠w.heap.size:=by omega
 have hdl:(cs.drop (i*Z)).length=(n-i)*Z:=by rw[Gu,hcl];omega
 refine⟨G,ROW,hGn,hRl,hRs,hRt,hG63,hrz,fun W hWc hWf ty dc=>?_,fun W hWc hWf ty dc sc=>?_⟩
 ·exact Jas Z W _ _ ty EL w.heap.size (i*Z) (n+m-i) dc ⟨vb,voff,none⟩ m vc vs m t24 hsz (by simp only[Nat.min_def];split<;>omega) hvl
   (fun j v hj=>by rw[Addr.add_lit,hWc];exact hOv _ v (hvs j v hj))
   (fun j hj=>by rw[hWc];exact hN _ (by omega)) (fun j hj=>by rw[hWf];exact hNf _) h1v
 ·exact Jas Z W _ _ ty EL w.heap.size ((i+m)*Z) (n+m-(i+m)) dc ⟨b,off+i*Z,none⟩ (n-i) sc (cs.drop (i*Z)) (n-i) t24 hsz (by simp only[Nat.min_def];split<;>omega) hdl
   (fun j v hj=>by
    rw[Addr.add_lit,hWc,World.cell?_setCells_out _ _ _ _ _ (fun h _=>absurd h hbN),GU];exact hOb _ v (hcs (i*Z+j) v (by rwa [List.getElem?_drop] at hj)))
   (fun j hj=>by rw[hWc];exact isSome_setK _ _ _ _ (fun t ht=>hN _ (by omega)) _ (hN _ (by omega)))
   (fun j hj=>by rw[hWf,World.frozen?_setCells];exact hNf _) (fun v hv=>h1c v (G6 hv))
end Sg
namespace Sg
open Go Go.RowKit
inductive CT where
 |bool
 |int (k:IntKind)
 |str
 |slice (r:List CT)
 deriving Inhabited
abbrev gt (r:List CT) (j:Nat):CT:=r.getD j .bool
inductive HasN (N:Nat):CT→V→Prop
 |bool (b):HasN N .bool (.bool b)
 |int (k n) (h:(Lit.int k n).wf=true):HasN N (.int k) (.int k n)
 |str (s) (h:s.length≤N):HasN N .str (.str s)
 |slice (r:List CT) (rows:List (List V)) (hl:rows.length≤N) (hz:∀i,i<rows.length→(gr rows i).length=r.length)
   (h:∀i j,i<rows.length→j<r.length→HasN N (gt r j) (gv (gr rows i) j)):HasN N (.slice r) (.slice r.length rows)
structure BK {H:Type} (bk:DataW H→Nat) (bkA:List (DataW H)→Nat):Prop where
 str:∀b,bk (.lit (.string b))=b.length+1
 slice:∀e s,bk (.slice e s)=bkA e+bkA s+1
 agg:∀p,bk (.agg p)=bkA p+1
 cons:∀d l,bkA (d::l)=bk d+bkA l
 one:∀d,1≤bk d
theorem BK.part {H:Type} {bk:DataW H→Nat} {bkA:List (DataW H)→Nat} (h:BK bk bkA) {d:DataW H}:∀{l:List (DataW H)},d∈l→bk d≤bkA l
 |x::l,hd=>by
  rw[h.cons];rcases GM.1 hd with rfl|hd
  ·omega
  ·have:=h.part hd;omega
theorem BK.len {H:Type} {bk:DataW H→Nat} {bkA:List (DataW H)→Nat} (h:BK bk bkA):∀{l:List (DataW H)},l.length≤bkA l
 |[]=>G1 _
 |x::l=>by
  rw[h.cons];have:=h.len (l:=l);have:=h.one x;simp only[List.length_cons];omega
mutual
def wtV:V→Nat
 |.str s=>s.length
 |.slice _ rows=>rows.length+wtR rows
 |.agg cs=>wtL cs
 |_=>0
def wtL:List V→Nat
 |[]=>0
 |v::l=>wtV v+wtL l
def wtR:List (List V)→Nat
 |[]=>0
 |r::l=>wtL r+wtR l
end
theorem wtL_append:∀{a b:List V},wtL (a++b)=wtL a+wtL b
 |[],b=>by simp[wtL]
 |x::a,b=>by simp only[List.cons_append,wtL,wtL_append (a:=a)];omega
theorem Jau {x:V}:wtL [x]=wtV x:=by simp[wtL]
theorem BK.rows {H:Type} {bk:DataW H→Nat} {bkA:List (DataW H)→Nat} (h:BK bk bkA):∀{es:List (DataW H)} {f:Nat→List V},(∀i d,es[i]?=some d→wtL (f i)+1≤bk d)→wtR ((List.range es.length).map f)+es.length≤bkA es
 |[],f,_=>by simp[wtR]
 |d::es,f,hf=>by
  have h0:=hf 0 d rfl;have ih:=h.rows (es:=es) (f:=fun i=>f (i+1)) fun i d' hd=>hf (i+1) d' (by simpa using hd);rw[h.cons];simp only[List.length_cons,List.range_succ_eq_map,Gv,List.map_map,wtR];have e:(f ∘ Nat.succ)=fun i=>f (i+1):=rfl;rw[e];omega
def Fit {H:Type} (N:Nat) (bk:DataW H→Nat) (bkA:List (DataW H)→Nat) (d:DataW H):Prop:=maxLen≤N∨(BK bk bkA∧bk d≤N)
section
variable (P:Program)
def Jc1 (g:TypeId→Option (List CT)):List Field→Nat→Option (List CT)
 |[],_=>some []
 |f::fs,o=>if f.offset=o then (g f.type).bind fun r=>if szT P f.type=some r.length then (Jc1 g fs (o+r.length)).bind fun rs=>some (r++rs) else none else none
def rowT:Nat→TypeId→Option (List CT)
 |0,_=>none
 |n+1,t=>match P.underlying t with
  |some .bool=>some [.bool]
  |some (.int k)=>some [.int k]
  |some .string=>some [.str]
  |some (.slice e)=>(rowT n e).bind fun r=>if szT P e=some r.length∧r.length≠0 then some [.slice r] else none
  |some (.struct fs)=>(Jc1 P (rowT n) fs.toList 0).bind fun r=>if szT P t=some r.length then some r else none
  |_=>none
end
section
variable {P:Program} {cx:Cx} {w:World} {X:Nat→Prop} {N:Nat}
def Row (N:Nat) (cx:Cx) (w:World) (X:Nat→Prop) (r:List CT) (f:Nat→Option Value) (xs:List V):Prop:=
 xs.length=r.length∧∀j,j<r.length→∃u,f j=some u∧u.oneCell'=true∧RelD cx w X u (gv xs j)∧HasN N (gt r j) (gv xs j)
theorem Row.append {r1 r2:List CT} {f:Nat→Option Value} {xs ys:List V} (h1:Row N cx w X r1 f xs) (h2:Row N cx w X r2 (fun j=>f (r1.length+j)) ys):Row N cx w X (r1++r2) f (xs++ys):=by
 refine⟨by simp[h1.1,h2.1],fun j hj=>?_⟩;simp only[Gk] at hj;by_cases hlt:j<r1.length
 ·obtain⟨u,a,b,c,d⟩:=h1.2 j hlt;refine⟨u,a,b,?_,?_⟩
  ·rw[show gv (xs++ys) j=gv xs j from by simp[gv,List.getD_eq_getElem?_getD,List.getElem?_append_left (by rw[h1.1];exact hlt)]];exact c
  ·rw[show gv (xs++ys) j=gv xs j from by simp[gv,List.getD_eq_getElem?_getD,List.getElem?_append_left (by rw[h1.1];exact hlt)],
    show gt (r1++r2) j=gt r1 j from by simp[gt,List.getD_eq_getElem?_getD,List.getElem?_append_left hlt]];exact d
 ·obtain⟨u,a,b,c,d⟩:=h2.2 (j-r1.length) (by omega);have e:r1.length+(j-r1.length)=j:=by omega
  simp only[e] at a;have g1:gv (xs++ys) j=gv ys (j-r1.length):=by
   simp only[gv,List.getD_eq_getElem?_getD];rw[List.getElem?_append_right (by rw[h1.1];omega),h1.1]
  have g2:gt (r1++r2) j=gt r2 (j-r1.length):=by
   simp only[gt,List.getD_eq_getElem?_getD];rw[List.getElem?_append_right (by omega)]
  exact⟨u,a,b,by rw[g1];exact c,by rw[g1,g2];exact d⟩
theorem Row.one {c:CT} {f:Nat→Option Value} {u:Value} {x:V} (h0:f 0=some u) (h1:u.oneCell'=true) (h2:RelD cx w X u x) (h3:HasN N c x):Row N cx w X [c] f [x]:=
 ⟨rfl,fun j hj=>by
  have:j=0:=by simp at hj;exact hj
  subst this;exact⟨u,h0,h1,h2,h3⟩⟩
theorem JdJ {a:Addr} {u:Value} (h:w.cell? a=some u):∃c e fr,a=⟨a.block,a.off,none⟩∧w.heap[a.block]?=some (.cells c e fr)∧c[a.off]?=some u:=by
 obtain⟨b,o,sp⟩:=a;unfold World.cell? at h;split at h
 ·rename_i c e fr hc;split at h
  ·simp at h
  ·rename_i hs;cases sp with
   |none=>exact⟨c,e,fr,rfl,hc,h⟩
   |some x=>simp at hs
 ·simp at h
theorem Jbq {t:TypeId} {n:Nat} (h:szT P t=some n):P.cellsOf t=n:=by
 unfold szT at h;unfold Program.cellsOf;rw[h];rfl
theorem JbP {H:Type} {enc:TypeId×Value→H} {bk:DataW H→Nat} {bkA:List (DataW H)→Nat} {fuel:Nat} {g:TypeId→Option (List CT)} {cs:List Value}
  (ih:∀(t:TypeId) (cs:List Value) (d:DataW H) (ps:List MemPlace) (r:List CT),DataW.trod enc P w 0 (fun _=>true) true fuel t cs=some (d,ps)→g t=some r→Fit N bk bkA d→∃xs,Row N cx w X r (fun j=>cs[j]?) xs∧(BK bk bkA→wtL xs+1≤bk d)) :
  ∀(fs:List Field) (o:Nat) (ys:List (DataW H×List MemPlace)) (r:List CT),(fs.mapM fun f=>DataW.trod enc P w 0 (fun _=>true) true fuel f.type ((cs.drop f.offset).take (P.cellsOf f.type)))=some ys→
   Jc1 P g fs o=some r→(∀y∈ys,Fit N bk bkA y.1)→∃xs,Row N cx w X r (fun j=>cs[o+j]?) xs∧(BK bk bkA→wtL xs≤bkA (ys.map fun y=>y.1))
 |[],o,ys,r,_,hr,_=>by
  simp only[Jc1,Ga] at hr;subst hr;exact⟨[],⟨rfl,fun j hj=>by simp at hj⟩,fun _=>by simp[wtL]⟩
 |f::fs,o,ys,r,h,hr,hfit=>by
  rw[List.mapM_cons] at h;simp only[Jc1] at hr;split at hr<;>try (simp at hr;done)
  rename_i ho;simp only[Gb] at hr;obtain⟨r1,hr1,hr⟩:=hr;split at hr<;>try (simp at hr;done)
  rename_i hz;simp only[Gb,Ga] at hr;obtain⟨r2,hr2,rfl⟩:=hr;cases h1:DataW.trod enc P w 0 (fun _=>true) true fuel f.type ((cs.drop f.offset).take (P.cellsOf f.type)) with
  |none=>simp[h1] at h
  |some y=>
   cases h2:fs.mapM fun f=>DataW.trod enc P w 0 (fun _=>true) true fuel f.type ((cs.drop f.offset).take (P.cellsOf f.type)) with
   |none=>simp[h1,h2] at h
   |some zs=>
    obtain⟨d,ps⟩:=y;have hys:ys=(d,ps)::zs:=by simpa [h1,h2] using h.symm
    subst hys;obtain⟨xs,hx,wx⟩:=ih _ _ _ _ _ h1 hr1 (hfit _ (GZ ..));obtain⟨ys,hy,wy⟩:=JbP ih fs (o+r1.length) zs r2 h2 hr2 (fun y hy=>hfit y (GF _ hy));have hx':Row N cx w X r1 (fun j=>cs[o+j]?) xs:=⟨hx.1,fun j hj=>by
     obtain⟨u,a,b⟩:=hx.2 j hj;refine⟨u,?_,b⟩;simp only at a ⊢;rw[Jbq hz,List.getElem?_take_of_lt hj,List.getElem?_drop,ho] at a;exact a⟩
    refine⟨xs++ys,hx'.append ?_,fun hb=>?_⟩
    ·simpa only [GU] using hy
    ·have:=wx hb;have:=wy hb;rw[wtL_append,Gv,hb.cons]
     show _≤bk d+_
     omega
theorem reading {H:Type} {enc:TypeId×Value→H} {bk:DataW H→Nat} {bkA:List (DataW H)→Nat}:∀(fuel:Nat) (n:Nat) (t:TypeId) (cs:List Value) (d:DataW H) (ps:List MemPlace) (r:List CT),
  DataW.trod enc P w 0 (fun _=>true) true fuel t cs=some (d,ps)→rowT P n t=some r→Fit N bk bkA d→∃xs,Row N cx w (fun _=>False) r (fun j=>cs[j]?) xs∧(BK bk bkA→wtL xs+1≤bk d)
 |0,n,t,cs,d,ps,r,h,_,_=>by simp[DataW.trod] at h
 |fuel+1,0,t,cs,d,ps,r,_,hr,_=>by simp[rowT] at hr
 |fuel+1,n+1,t,cs,d,ps,r,h,hr,hfit=>by
  have ih:=fun t cs d ps r=>reading (enc:=enc) (bk:=bk) (bkA:=bkA) fuel n t cs d ps r;unfold rowT at hr;unfold DataW.trod at h;split at hr
  ·rename_i ht;rw[ht] at h;simp only[Ga] at hr;subst hr;split at h<;>simp_all
   subst_vars
   exact⟨_,Row.one rfl rfl (.bool _) (.bool _),fun hb=>by have:=hb.one d;simpa [Jau,wtV] using this⟩
  ·rename_i k ht;rw[ht] at h;simp only[Ga] at hr;subst hr;split at h<;>simp_all;obtain⟨⟨rfl,hw⟩,-⟩:=h
   subst_vars
   exact⟨_,Row.one rfl rfl (.int _ _) (.int _ _ hw),fun hb=>by have:=hb.one d;simpa [Jau,wtV] using this⟩
  ·rename_i ht;rw[ht] at h;simp only[Ga] at hr;subst hr;split at h
   all_goals try (simp_all;done)
   rename_i s heq;split at h<;>simp only[Ga,reduceCtorEq,Gf] at h;rename_i hle;obtain⟨rfl,-⟩:=h;have hl:s.data.toList.length=s.size:=Array.length_toList;exact⟨_,Row.one rfl rfl (.str s) (.str _ (by
    rcases hfit with hfit|⟨hb,hfit⟩
    ·omega
    ·rw[hb.str] at hfit;omega)),fun hb=>by rw[hb.str,Jau,wtV,hl];omega⟩
  ·rename_i e ht;simp only[Gb] at hr;obtain⟨r1,hr1,hr⟩:=hr;split at hr<;>simp only[Ga,reduceCtorEq] at hr;rename_i hz;subst hr;rw[ht] at h;split at h
   all_goals try (simp_all;done)
   ·exact⟨_,Row.one rfl rfl (.nilslice none r1.length) (.slice r1 [] (by simp) (fun i hi=>by simp at hi) (fun i j hi=>by simp at hi)),fun hb=>by simpa [Jau,wtV,wtR] using hb.one _⟩
   ·rename_i e' a len cap heq;simp only[Ga,TypeDesc.slice.injEq] at heq;subst heq;simp only at h;split at h<;>try (simp at h;done)
    rename_i hc;obtain⟨-,hc1,hc2⟩:=hc;have hsz:P.cellsOf e=r1.length:=Jbq hz.1;simp only[Gb,GJ] at h;obtain⟨elems,hel,rest,hrest,hd⟩:=h;simp only[Gf] at hd;obtain⟨rfl,-⟩:=hd;simp only[Gx] at hrest;rw[hsz] at hel hrest;have el:∀i,i<cap→∃l,w.cells? 0 (a.add (i*r1.length)) r1.length=some l∧∃y,DataW.trod enc P w 0 (fun _=>true) true fuel e l=some y∧(y∈elems∨y∈rest)∧(i<len→elems[i]?=some y):=by
     intro i hi;have:∃y,((w.cells? 0 (a.add (i*r1.length)) r1.length).bind (DataW.trod enc P w 0 (fun _=>true) true fuel e))=some y∧(y∈elems∨y∈rest)∧(i<len→elems[i]?=some y):=by
      by_cases hlt:i<len
      ·have h1:=mapM_some_get hel i i (by simp[hlt]);have h2:=mapM_some_length hel;simp only[List.length_range] at h2;exact⟨elems[i],by rw[h1];simp,.inl (Gaf _),fun _=>by simp⟩
      ·have hr0:(List.range (cap-len))[i-len]?=some (i-len):=by
        rw[List.getElem?_range (by omega)]
       have h1:=mapM_some_get hrest (i-len) (i-len) hr0;have h2:=mapM_some_length hrest;simp only[List.length_range] at h2;rw[show len+(i-len)=i from by omega] at h1;exact⟨rest[i-len],by rw[h1];simp,.inr (Gaf _),fun h=>absurd h hlt⟩
     obtain⟨y,hy,hym⟩:=this;simp only[Gb] at hy;obtain⟨l,h1,h2⟩:=hy;exact⟨l,h1,y,h2,hym⟩
    have hfe:∀y,(y∈elems∨y∈rest)→Fit N bk bkA y.1:=fun y hy=>by
     rcases hfit with hfit|⟨hb,hfit⟩
     ·exact .inl hfit
     ·rw[hb.slice] at hfit;refine .inr ⟨hb,?_⟩;rcases hy with hy|hy
      ·have:=hb.part (List.mem_map_of_mem (f:=fun x:DataW H×List MemPlace=>x.1) hy);omega
      ·have:=hb.part (List.mem_map_of_mem (f:=fun x:DataW H×List MemPlace=>x.1) hy);omega
    have hln:len≤N:=by
     rcases hfit with hfit|⟨hb,hfit⟩
     ·omega
     ·rw[hb.slice] at hfit;have h1:=hb.len (l:=elems.map fun x=>x.1);have h2:=mapM_some_length hel;simp only[List.length_range,Gi] at h1 h2;omega
    by_cases hcap:cap=0
    ·subst hcap;obtain rfl:len=0:=by omega
     exact⟨_,Row.one rfl rfl (.nilslice (some a) r1.length) (.slice r1 [] (by simp) (fun i hi=>by simp at hi) (fun i j hi=>by simp at hi)),fun hb=>by simpa [Jau,wtV,wtR] using hb.one _⟩
    ·obtain⟨l0,hl0,-⟩:=el 0 (by omega);have hl0':=World.cells?_some hl0;obtain⟨c,ec,fr,hspot,hheap,-⟩:=JdJ (w:=w) (a:=(a.add (0*r1.length)).add 0) (u:=l0[0]'(by omega)) (by rw[hl0'.2.2 0 (by omega)];simp);have hspot':a=⟨a.block,a.off,none⟩:=by
      obtain⟨b,o,sp⟩:=a;simp only[Addr.add] at hspot;cases sp<;>simp_all
     obtain⟨b,o,sp⟩:=a;simp only[Addr.mk.injEq,true_and] at hspot';subst hspot';have hheap:w.heap[b]?=some (.cells c ec fr):=by simpa [Addr.add] using hheap
     have row:∀i,i<len→∃xs,Row N cx w (fun _=>False) r1 (fun j=>c[o+i*r1.length+j]?) xs∧(BK bk bkA→∀d,(elems.map fun x=>x.1)[i]?=some d→wtL xs+1≤bk d):=by
      intro i hi;obtain⟨l,hl,⟨d',ps'⟩,hd,hym,hei⟩:=el i (by omega);obtain⟨xs,⟨hx1,hx2⟩,wx⟩:=ih _ _ _ _ _ hd hr1 (hfe _ hym);obtain⟨-,hl1,hl2⟩:=World.cells?_some hl;refine⟨xs,⟨hx1,fun j hj=>?_⟩,fun hb d hd=>by
       rw[List.getElem?_map,hei hi] at hd;simp only[Option.map_some,Ga] at hd;rw[←hd];exact wx hb⟩
      obtain⟨u,p1,p2⟩:=hx2 j hj;refine⟨u,?_,p2⟩;simp only at p1 ⊢;have h3:=hl2 j hj;rw[p1,JJ,JJ] at h3;obtain⟨c',_,_,_,h4,h5⟩:=JdJ h3;rw[hheap] at h4;simp only[Ga,Obj.cells.injEq] at h4;obtain⟨rfl,-⟩:=h4;exact h5
     obtain⟨f,hf⟩:=JaD row;have hlen:((List.range len).map f).length=len:=by simp
     have hgr:∀i,i<len→gr ((List.range len).map f) i=f i:=fun i hi=>by simp[gr,hi]
     refine⟨[.slice r1.length ((List.range len).map f)],Row.one rfl rfl ?_ ?_,fun hb=>?_⟩
     ·refine Jbh (c:=c) (e:=ec) (fr:=fr) (JN hheap) id hheap (by simpa using hc1) (fun i hi=>?_) (fun i j hi hj=>?_) hlen
      ·rw[hlen] at hi;rw[hgr i hi];exact (hf i hi).1.1
      ·rw[hlen] at hi;rw[hgr i hi];obtain⟨u,p1,p2,p3,p4⟩:=(hf i hi).1.2 j hj;exact⟨u,p1,p2,p3⟩
     ·refine .slice r1 _ (by rw[hlen];exact hln) (fun i hi=>?_) (fun i j hi hj=>?_)
      ·rw[hlen] at hi;rw[hgr i hi];exact (hf i hi).1.1
      ·rw[hlen] at hi;rw[hgr i hi];obtain⟨u,p1,p2,p3,p4⟩:=(hf i hi).1.2 j hj;exact p4
     ·have hle:=mapM_some_length hel;simp only[List.length_range] at hle;have:=hb.rows (es:=elems.map fun x=>x.1) (f:=f) fun i d hd=>(hf i (by
       have:=(List.getElem?_eq_some_iff.1 hd).1;simp only[Gi] at this;omega)).2 hb d hd
      simp only[Gi,hle] at this;rw[hb.slice,Jau,wtV,hlen];omega
  ·rename_i fs ht;simp only[Gb] at hr;obtain⟨r1,hr1,hr⟩:=hr;split at hr<;>simp only[Ga,reduceCtorEq] at hr;subst hr;rw[ht] at h;split at h
   all_goals try (simp_all;done)
   rename_i fs' _ heq;simp only[Ga,TypeDesc.struct.injEq] at heq;subst heq;split at h<;>try (simp at h;done)
   simp only[GJ] at h;obtain⟨ys,hys,hd⟩:=h;simp only[Gf] at hd;obtain⟨rfl,-⟩:=hd;have hfy:∀y∈ys,Fit N bk bkA y.1:=fun y hy=>by
    rcases hfit with hfit|⟨hb,hfit⟩
    ·exact .inl hfit
    ·rw[hb.agg] at hfit;have:=hb.part (List.mem_map_of_mem (f:=fun x:DataW H×List MemPlace=>x.1) hy);exact .inr ⟨hb,by omega⟩
   obtain⟨xs,hx,wx⟩:=JbP (fun t cs d ps r=>ih t cs d ps r) fs.toList 0 ys _ hys hr1 hfy;exact⟨xs,by simpa using hx,fun hb=>by have:=wx hb;rw[hb.agg];omega⟩
  ·simp at hr
end
end Sg
namespace Sg
open Go Go.RowKit Go.ChangeShapes Go.WideShapes
def isAgg (P:Program) (t:TypeId):Bool:=
 match P.underlying t with
 |some (.struct _)=>true
 |_=>false
def Jev (P:Program) (t:TypeId):Option (Bool×List CT):=(rowT P 20 t).bind fun r=>some (isAgg P t,r)
def JdC (N:Nat) (r:List CT) (xs:List V):Prop:=xs.length=r.length∧∀j,j<r.length→HasN N (gt r j) (gv xs j)
def ArgVN (N:Nat):Bool×List CT→V→Prop
 |(true,r),x=>∃xs,x=.agg xs∧JdC N r xs
 |(false,r),x=>∃c,r=[c]∧HasN N c x
def JbF (N:Nat):List (Bool×List CT)→List V→Prop
 |[],[]=>True
 |s::ss,x::xs=>ArgVN N s x∧JbF N ss xs
 |_,_=>False
abbrev ArgsV:List (Bool×List CT)→List V→Prop:=JbF maxLen
def FitV (N:Nat) (x:V):Prop:=maxLen≤N∨wtV x≤N
section
variable {P:Program} {cx:Cx} {w:World} {N:Nat}
theorem Jin {H:Type} {enc:TypeId×Value→H} {bk:DataW H→Nat} {bkA:List (DataW H)→Nat} {t:TypeId} {v:Value} {d:DataW H} {ps:List MemPlace} {s:Bool×List CT} {base:Nat} (h:DataW.Trod enc P w 0 (fun _=>true) true t v d ps)
  (hw:Value.okWide P w .any base t v) (hs:Jev P t=some s) (hfit:Fit N bk bkA d):∃x,RelD cx w (fun _=>False) v x∧ArgVN N s x∧FitV N x:=by
 unfold Jev at hs
 simp only[Gb,Ga] at hs
 obtain⟨r,hr,rfl⟩:=hs
 obtain⟨fuel,hf⟩:=h
 obtain⟨xs,⟨hl,hx⟩,hwt⟩:=reading (cx:=cx) (N:=N) (bk:=bk) (bkA:=bkA) fuel 20 t _ d ps r hf hr hfit
 have hF:FitV N (.agg xs):=by
  rcases hfit with hfit|⟨hb,hfit⟩
  ·exact .inl hfit
  ·have:=hwt hb;exact .inr (by show wtL xs≤N;omega)
 have one:∀c,r=[c]→v.cells=#[v]→isAgg P t=false→∃x,RelD cx w (fun _=>False) v x∧ArgVN N (isAgg P t,r) x∧FitV N x:=by
  intro c hc hv ha;subst hc;obtain⟨u,h1,h2,h3,h4⟩:=hx 0 (by simp);rw[hv] at h1;simp at h1;subst h1;refine⟨gv xs 0,h3,by rw[ha];exact⟨c,rfl,h4⟩,hF.imp id fun h=>?_⟩
  match xs,hl with
  |[x],_=>have h:wtL [x]≤N:=h;rw[Jau] at h;exact h
 unfold rowT at hr
 split at hr
 ·rename_i ht
  obtain⟨b,rfl⟩:=okWide_bool ht hw
  simp only[Ga] at hr
  exact one _ hr.symm rfl (by simp[isAgg,ht])
 ·rename_i k ht
  obtain⟨b,rfl⟩:=okWide_int ht hw
  simp only[Ga] at hr
  exact one _ hr.symm rfl (by simp[isAgg,ht])
 ·rename_i ht
  obtain⟨b,rfl⟩:=okWide_string ht hw
  simp only[Ga] at hr
  exact one _ hr.symm rfl (by simp[isAgg,ht])
 ·rename_i e ht
  obtain⟨a,len,cap,rfl⟩:=okWide_slice ht hw
  simp only[Gb] at hr
  obtain⟨r1,-,hr⟩:=hr
  split at hr<;>simp only[Ga,reduceCtorEq] at hr
  exact one _ hr.symm rfl (by simp[isAgg,ht])
 ·rename_i fs ht
  obtain⟨cs,rfl,hsz⟩:=okWide_struct ht hw
  simp only[Gb] at hr
  obtain⟨r1,-,hr⟩:=hr
  split at hr<;>simp only[Ga,reduceCtorEq] at hr
  rename_i hz
  subst hr
  have hcs:cs.size=r1.length:=by rw[hsz];exact Jbq hz
  have ha:isAgg P t=true:=by simp[isAgg,ht]
  obtain⟨u,hu⟩:=JaD hx
  refine⟨.agg xs,.agg cs xs u (by rw[hcs,hl]) (fun i hi=>?_) (fun i hi=>?_),?_⟩
  ·rw[hl] at hi
   have:=(hu i hi).1
   exact⟨by simpa [Value.cells] using this,(hu i hi).2.1⟩
  ·rw[hl] at hi;exact (hu i hi).2.2.1
  ·rw[ha];exact⟨⟨xs,rfl,hl,fun j hj=>(hu j hj).2.2.2⟩,hF⟩
 ·simp at hr
theorem args_ok {H:Type} {enc:TypeId×Value→H} {bk:DataW H→Nat} {bkA:List (DataW H)→Nat} {base:Nat}:∀(ts:List TypeId) (vs:List Value) (ds:List (DataW H)) (ps:List MemPlace) (ss:List (Bool×List CT)),DataW.TrodAll enc P w 0 (fun _=>true) true ts vs ds ps→
  (∀(j:Nat) t v,ts[j]?=some t→vs[j]?=some v→Value.okWide P w .any base t v)→Jn (Jev P) ts=some ss→(∀d∈ds,Fit N bk bkA d)→
  ∃xs:List V,xs.length=vs.length∧(∀i,i<xs.length→∃u,vs[i]?=some u∧RelD cx w (fun _=>False) u (gv xs i))∧JbF N ss xs∧ds.length=ts.length∧∀x∈xs,FitV N x
 |[],vs,ds,ps,ss,h,_,hs,_=>by
  obtain⟨rfl,rfl,rfl⟩:=trodAll_nil h;simp only[Jn,Ga] at hs;subst hs;exact⟨[],rfl,fun i hi=>by simp at hi,Gn,rfl,fun x hx=>by cases hx⟩
 |t::ts,vs,ds,ps,ss,h,hok,hs,hfit=>by
  match vs,ds,h,hfit with
  |v::vs,d::ds,h,hfit=>
   obtain⟨p,q,h1,h2,rfl⟩:=h;simp only[Jn,Gb,Ga] at hs;obtain⟨s,hs1,ss',hs2,rfl⟩:=hs;obtain⟨x,hx1,hx2,hx3⟩:=Jin (cx:=cx) (N:=N) h1 (hok 0 t v rfl rfl) hs1 (hfit d (GZ ..));obtain⟨xs,a,b,c,e,e3⟩:=args_ok ts vs ds q ss' h2 (fun j t v hj hv=>hok (j+1) t v (by simpa using hj) (by simpa using hv)) hs2 (fun d hd=>hfit d (GF _ hd));refine⟨x::xs,by simp[a],fun i hi=>?_,⟨hx2,c⟩,by simp[e],fun y hy=>by
    rcases GM.1 hy with rfl|hy
    ·exact hx3
    ·exact e3 y hy⟩
   cases i with
   |zero=>exact⟨v,rfl,by simpa [gv] using hx1⟩
   |succ i=>obtain⟨u,p1,p2⟩:=b i (by simpa using hi);exact⟨u,by simpa using p1,by simpa [gv] using p2⟩
theorem Jca {H:Type} {enc:TypeId×Value→H} {W W':World} {sp:Nat→Bool} (hl:laidOutB P=true) (hb:Below W.heap.size W W') :
  ∀(ts:List TypeId) (vs:List Value) (ds:List (DataW H)) (ps:List MemPlace),(ts.all fun t=>P.readableRec t&&decide (t<P.types.size))=true→
  DataW.TrodAll enc P W 0 (fun _=>true) true ts vs ds ps→(∀p∈ps,p.block<W.heap.size)→(∀p∈ps,sp p.block=true)→DataW.TrodAll enc P W' 0 sp true ts vs ds ps
 |[],vs,ds,ps,_,h,_,_=>by
  obtain⟨rfl,rfl,rfl⟩:=trodAll_nil h;exact trodAll_mk0
 |t::ts,vs,ds,ps,hc,h,hlt,hsp=>by
  match vs,ds,h with
  |v::vs,d::ds,h=>
   obtain⟨p,q,h1,h2,rfl⟩:=h;simp only[List.all_cons,Gg,Gz] at hc;exact⟨p,q,WideElems.Trod_stays hl hc.1.1 hc.1.2 h1 (fun x hx=>hb.same (hlt x (by simp[hx]))) (fun x hx=>hsp x (by simp[hx])),
    Jca hl hb ts vs ds q (by simpa using hc.2) h2 (fun x hx=>hlt x (by simp[hx])) (fun x hx=>hsp x (by simp[hx])),rfl⟩
theorem liftW {H:Type} {enc:TypeId×Value→H} {bk:DataW H→Nat} {bkA:List (DataW H)→Nat} {fn:Func} {s:ChangeSpec} {conds:List PathCond} {apart fresh handsOn again:Bool} {own:Option Nat} {fid:Nat} {f:FuncId} {ss:List (Bool×List CT)} {tb:TypeId}
  (hcx:cx.fm fid=f) (hprm:Jn (Jev P) fn.params.toList=some ss) (hclosed:(fn.params.toList.all fun t=>P.readableRec t&&decide (t<P.types.size))=true) (hl:laidOutB P=true)
  (hvars:s.vars=[]) (hres:fn.resultTypes=#[tb]) (htb:P.underlying tb=some .bool)
  (hspec:∀ds:List (DataW H),ds.length=fn.params.toList.length→s.fn H ds={results:=[.lit (.bool true)],args:=ds})
  (hctr:∀xs,JbF N ss xs→(∀x∈xs,FitV N x)→Ctr P cx own fid xs (.bool true))
  (W:World) (hgn:cx.gn≤W.heap.size) (hG:cx.G W) (base:Nat) (args:Array Value) (ds gs:List (DataW H)) (before:List MemPlace)
  (hval:∀(j:Nat) t v,fn.params[j]?=some t→args[j]?=some v→Value.okWide P W .any base t v)
  (hW:DataW.Whole enc P fn.params.toList s.vars apart W args.toList ds gs before) (hfit:∀d∈ds,Fit N bk bkA d) :
  Calls P f args W fun e W'=>∃v,e=.returned v∧s.post enc P fn apart fresh handsOn again W args v W':=by
 have hlt:=hW.lt
 have hW':=hW
 obtain⟨p,q,hA,hV,rfl,-,-⟩:=hW
 rw[hvars] at hV
 obtain⟨rfl,rfl⟩:=trodVars_none hV
 obtain⟨xs,h1,h2,h3,h4,h5⟩:=args_ok (cx:=cx) (N:=N) (bk:=bk) (bkA:=bkA) (base:=base) fn.params.toList args.toList ds p ss hA (fun j t v hj hv=>hval j t v (by simpa using hj) (by simpa using hv)) hprm hfit
 obtain⟨-,hc⟩:=hctr xs h3 h5
 subst hcx
 refine (hc W (fun _=>False) args (fun b hb=>hb.elim) hgn hG (by simpa using h1.symm) (fun i hi=>by simpa using h2 i hi)).mono fun e W' ⟨v,he,hb,hr⟩=>?_
 subst he
 have hr':=hr.data (fun b hb=>hb.elim)
 have hv:v=.bool true:=by cases hr';rfl
 subst hv
 have hs:=hspec ds h4
 have hlt':∀x∈p,x.block<W.heap.size:=fun x hx=>hlt x (by simpa using hx)
 have res:∀(b:Nat) (sp:Nat→Bool) (hd:Bool),DataW.TrodAll enc P W' b sp hd fn.resultTypes.toList ((Value.bool true).resultList fn.resultTypes.size) (s.fn H (ds++[])).results []:=fun b sp hd=>by
  rw[GI,hs,hres];exact trodAll_mk1 (shut_bool htb true)
 have back:∀sp:Nat→Bool,(∀x∈p,sp x.block=true)→DataW.TrodAll enc P W' 0 sp true fn.params.toList args.toList (s.fn H (ds++[])).args p:=fun sp hsp=>by
  rw[GI,hs];exact Jca hl hb _ _ _ _ hclosed hA hlt' hsp
 have vars:∀sp:Nat→Bool,DataW.TrodVars enc P W' sp s.vars (s.fn H (ds++[])).vars []:=fun sp=>by
  rw[GI,hs,hvars];rfl
 refine⟨_,rfl,ds,[],p++[],[],p,[],hW',res _ _ _,back _ (fun x hx=>by simpa using hlt' x hx),vars _,hb.frame _,fun _=>⟨ok_one hres rfl (okWide_bool_mk htb true),(s.fn H (ds++[])).results++(s.fn H (ds++[])).args,(s.fn H (ds++[])).vars,p,?_,fun x hx _=>by simpa using hx⟩⟩
 obtain⟨_,_,_,_,_,hz,hn⟩:=hW'
 refine⟨p,[],?_,vars _,by simp,fun b off hx=>?_,fun ha=>by simpa using hn ha⟩
 ·have:=trodAll_append (back (fun _=>true) (fun _ _=>rfl)) (res 0 (fun _=>true) true)
  simpa using this
 ·rw[hb.frozen (hlt' _ hx)]
  exact hz b off (by simpa using hx)
theorem liftN {H:Type} {enc:TypeId×Value→H} {bk:DataW H→Nat} {bkA:List (DataW H)→Nat} {fn:Func} {s:ChangeSpec} {conds:List PathCond} {apart fresh handsOn again:Bool} {own:Option Nat} {fid:Nat} {f:FuncId} {ss:List (Bool×List CT)} {tb:TypeId}
  (hcx:cx.fm fid=f) (hprm:Jn (Jev P) fn.params.toList=some ss) (hclosed:(fn.params.toList.all fun t=>P.readableRec t&&decide (t<P.types.size))=true) (hl:laidOutB P=true)
  (hvars:s.vars=[]) (hres:fn.resultTypes=#[tb]) (htb:P.underlying tb=some .bool)
  (hspec:∀ds:List (DataW H),ds.length=fn.params.toList.length→s.fn H ds={results:=[.lit (.bool true)],args:=ds})
  (hctr:∀xs,JbF N ss xs→Ctr P cx own fid xs (.bool true))
  (W:World) (hgn:cx.gn≤W.heap.size) (hG:cx.G W) (base:Nat) (args:Array Value) (ds gs:List (DataW H)) (before:List MemPlace)
  (hval:∀(j:Nat) t v,fn.params[j]?=some t→args[j]?=some v→Value.okWide P W .any base t v)
  (hW:DataW.Whole enc P fn.params.toList s.vars apart W args.toList ds gs before) (hfit:∀d∈ds,Fit N bk bkA d) :
  Calls P f args W fun e W'=>∃v,e=.returned v∧s.post enc P fn apart fresh handsOn again W args v W':=
 liftW (conds:=conds) (bk:=bk) (bkA:=bkA) hcx hprm hclosed hl hvars hres htb hspec (fun xs h _=>hctr xs h) W hgn hG base args ds gs before hval hW hfit
theorem lift {H:Type} {enc:TypeId×Value→H} {fn:Func} {s:ChangeSpec} {conds:List PathCond} {apart fresh handsOn again:Bool} {own:Option Nat} {fid:Nat} {f:FuncId} {ss:List (Bool×List CT)} {tb:TypeId}
  (hcx:cx.fm fid=f) (hprm:Jn (Jev P) fn.params.toList=some ss) (hclosed:(fn.params.toList.all fun t=>P.readableRec t&&decide (t<P.types.size))=true) (hl:laidOutB P=true)
  (hvars:s.vars=[]) (hres:fn.resultTypes=#[tb]) (htb:P.underlying tb=some .bool)
  (hspec:∀ds:List (DataW H),ds.length=fn.params.toList.length→s.fn H ds={results:=[.lit (.bool true)],args:=ds})
  (hctr:∀xs,ArgsV ss xs→Ctr P cx own fid xs (.bool true))
  (W:World) (hgn:cx.gn≤W.heap.size) (hG:cx.G W) (base:Nat) (args:Array Value) (ds gs:List (DataW H)) (before:List MemPlace)
  (hval:∀(j:Nat) t v,fn.params[j]?=some t→args[j]?=some v→Value.okWide P W .any base t v)
  (hW:DataW.Whole enc P fn.params.toList s.vars apart W args.toList ds gs before) :
  Calls P f args W fun e W'=>∃v,e=.returned v∧s.post enc P fn apart fresh handsOn again W args v W':=
 liftN (conds:=conds) (bk:=fun _=>0) (bkA:=fun _=>0) hcx hprm hclosed hl hvars hres htb hspec hctr W hgn hG base args ds gs before hval hW (fun _ _=>.inl (Gm _))
end
end Sg
