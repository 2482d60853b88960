/- StoreOrder, at every input: proved over a checked abstract run of the translated code; no condition. A part. -/
import Derived.Test.YtofkbkonceifeaaGreatDoorCards
import Derived.Test.YtofkbkonceifeaaGreatDoorTie
import Derived.ProofKit
import Derived.OpenShut
import Derived.Lib.LaidIn
import Derived.Lib.LaidTab
import Derived.Deep.DeepHandedRow
import Derived.Deep.DeepWitnessRowRef
import Derived.Test.YtofkbkonceifeaaGreatDoorRows
import Derived.Test.YtofkbkonceifeaaGreatDoorStoreOrderA5
import Derived.Test.YtofkbkonceifeaaGreatDoorStoreOrderJ
set_option linter.unusedSimpArgs false
set_option linter.unusedVariables false
set_option linter.constructorNameAsVariable false
set_option linter.defProp false
set_option maxRecDepth 100000
set_option maxHeartbeats 4000000
namespace Sg
open _root_.Go (IntKind BinOp UnOp)
variable {Pg:PgT}
theorem Yg0 {c:Int} {d:Done}:∀{t:List Done},Ym t c=some d→d∈t
 |[],h=>by simp[Ym] at h
 |x::l,h=>by
  simp only[Ym] at h;split at h
  ·cases h;exact .head _
  ·exact .tail _ (Yg0 h)
theorem YkS {t:List Done} {c:Int} (h:YA t=true):((Yb7 t c).getD YK).ans.items=[]:=by
 unfold Yb7;rw[Gr h];cases q:Ym t c with
 |none=>rfl
 |some d=>
  simp only[YA,Gc] at h;have:=YcA h.1 d (Yg0 q);simp only[rowR,YbX,Gc,Gi] at this;exact this.2.2.2.2.2.2.1
theorem YkR {l:List Entr} {lo hi:List UInt8} {s:Stamp} {n:Int}:(YbC l lo hi s n).1.length≤n.toNat:=by
 unfold YbC YeZ;split
 ·assumption
 ·simp only[GG];omega
theorem YhA {c:Cel} {n e:Int} {r:Rq} {now:Stamp} {w:Int}:(doC c n e r now w).2.items.length≤8:=by
 have ft:∀e,(fault e).items.length≤8:=fun e=>by simp[fault]
 unfold doC;split
 ·rename_i hc;simp only[Gc] at hc;obtain⟨hc,-,-,-,-,hq⟩:=hc;cases q:YY c.shards n with
  |none=>exact ft _
  |some s=>
   have hs:=((Yt.1 hc).2.2.2.2 s (Yo q).1).2.1;have hl:0≤r.limit∧r.limit≤8:=by
    simp only[rqR,Gc,Gi] at hq;omega
   have hla:(YF s r.key c.top).items.length≤8:=by
    unfold YF;split<;>simp[fault]
   simp only;split
   ·exact ft _
   ·split
    ·exact ft _
    ·split
     ·have ha:∀o,(YaE o r now).items.length≤8:=fun o=>by unfold YaE;split<;>simp
      unfold YH;split
      ·rw[YkS (Yar hs).2.2.2.1];simp
      ·split
       ·exact ft _
       ·split
        ·exact ft _
        ·split
         ·exact ft _
         ·split
          ·exact ft _
          ·exact ha _
     ·split
      ·exact hla
      ·unfold Ya4;split
       ·exact ft _
       ·split
        ·exact ft _
        ·simp only;split
         ·unfold Ygq;split<;>simp
         ·have hp:=YkR (l:=s.ents) (lo:=r.key) (hi:=hiP s r) (s:=r.at_) (n:=r.limit);unfold Yfj;simp only;split<;>(simp only;omega)
 ·exact ft _
theorem Yhq {c:Int} {l:List Word} {n:Nat} (hn:n≤10000) (h:∀w∈l,w.members.length≤n):∀x∈Yai c l,SmM x:=fun x hx=>by
 simp only[Yai,GaA] at hx;obtain⟨w,hw,rfl⟩:=hx;have:=h w hw;refine⟨by simp[msgW,zMs,Ybl],by simp[msgW,zMs],?_⟩;simp only[msgW];omega
theorem Ygi {r:Rep}:∀w∈YM r,w.members.length≤r.members.length:=fun w hw=>by rw[YgR hw];exact Gt _
def OutOk (p:Sto×List Msg):Prop:=Ybd p.1∧p.2.length≤10000∧∀x∈p.2,SmM x
theorem YcM {s:Sto} (h:Ybd s):OutOk (s,[]):=⟨h,by simp,fun x hx=>by cases hx⟩
theorem Yi5 {s:Sto} {o:Own} (h:Ybd s) (hl:s.owns.length≤9999) (ho:Ygz o):Ybd ⟨s.id,Ybf s.owns o⟩:=by
 refine⟨by have:=Yd3 (o:=o) (l:=s.owns);simp only;omega,fun x hx=>?_⟩;rcases Ygd hx with rfl|hx
 ·exact ho
 ·exact h.2 x hx
theorem Yhj {s:Sto} {x:Msg} (h:Ybd s) (hx:SmM x):OutOk (s,[x]):=⟨h,by simp,fun y hy=>by
 have:y=x:=by simpa using hy
 subst this;exact hx⟩
theorem Yfq {id:Int} {m:Msg} {a:Ans} (h:a.items.length≤10000):SmM (doneM id m a):=⟨by simpa [doneM] using h,by simp[doneM,zMs],by simp[doneM,zMs]⟩
theorem Yi2 {s:Sto} {o:Own} {c:Cel} {outs:List Msg} (h:Ybd s) (hl:s.owns.length≤9999) (ho:Ygz o) (h2:outs.length≤1) (h3:∀x∈outs,SmM x) (hm:o.rep.members.length≤9000) (ha:o.rep.acks.length≤9000):OutOk (propS s o c outs):=by
 obtain⟨l1,l2,l3,l4⟩:=YhO (t:=cB c) ho.1.1;unfold propS;split
 ·exact YcM h
 ·have hw:∀w∈(Yv o.rep (cB c)).2.1,w.members.length≤o.rep.members.length:=by
   unfold Yv;split
   ·split
    ·split
     ·split
      ·intro w hw;cases hw
      ·exact Ygi
     ·intro w hw;cases hw
    ·intro w hw;cases hw
   ·intro w hw;cases hw
  have hlen:(Yv o.rep (cB c)).2.1.length≤9000:=by
   unfold Yv;split
   ·split
    ·split
     ·split
      ·simp
      ·exact GJ Ybu hm
     ·simp
    ·simp
   ·simp
  have hb:∀(b:Bool),(if b then outs else []).length≤1∧∀x∈(if b then outs else []),SmM x:=fun b=>by
   cases b with
   |false=>exact⟨by simp,fun x hx=>by cases hx⟩
   |true=>exact⟨h2,h3⟩
  have hb':∀(b:Bool),(if b then [] else outs).length≤1∧∀x∈(if b then [] else outs),SmM x:=fun b=>by
   cases b with
   |true=>exact⟨by simp,fun x hx=>by cases hx⟩
   |false=>exact⟨h2,h3⟩
  refine⟨Yi5 h hl ⟨⟨l1,by simp only;omega⟩,by have:=(hb (YI (Yv o.rep (cB c)).1)).1;simp only;omega,(hb (YI (Yv o.rep (cB c)).1)).2⟩,?_,fun x hx=>?_⟩
  ·have:=(hb' (YI (Yv o.rep (cB c)).1)).1;simp only[Ge,Yai,Gj];omega
  ·rcases GT.1 hx with hx|hx
   ·exact Yhq (by omega) hw x hx
   ·exact (hb' _).2 x hx
theorem Ylh {c:Cel} {m:Msg}:(YbP c m).2.1.ans=Ybl∧(YbP c m).2.1.places=[]∧(YbP c m).2.1.mem=[]:=by
 have z:∀k,(outT m k).ans=Ybl∧(outT m k).places=[]∧(outT m k).mem=[]:=fun k=>⟨rfl,rfl,rfl⟩;unfold YbP;split
 ·exact⟨rfl,rfl,rfl⟩
 split
 ·exact⟨rfl,rfl,rfl⟩
 split
 ·exact⟨rfl,rfl,rfl⟩
 split
 ·cases Yfn m.text<;>exact⟨rfl,rfl,rfl⟩
 split
 ·exact z _
 split
 ·exact z _
 split
 ·exact⟨rfl,rfl,rfl⟩
 split
 ·exact z _
 split
 ·exact z _
 split
 ·exact z _
 ·exact z _
theorem YkD {s:Sto} {o:Own} {c:Cel} {wall:Int} {m:Msg} (h:Ybd s) (hl:s.owns.length≤9999) (ho:Ygz o) (hm:o.rep.members.length≤9000) (ha:o.rep.acks.length≤9000):OutOk (cellS s o c wall m):=by
 have pr:∀(d:Cel) (x:Msg),SmM x→OutOk (propS s o d [x]):=fun d x hx=>Yi2 h hl ho (by simp) (fun y hy=>by
  have:y=x:=by simpa using hy
  subst this;exact hx) hm ha
 have sl:∀t,SmM (Ygv s.id m t):=fun t=>⟨by simp[Ygv,zMs,Ybl],by simp[Ygv,zMs],by simp[Ygv,zMs]⟩;unfold cellS;split
 ·unfold doS;split
  ·exact Yhj h (Yfq (by simp[Ybl]))
  ·have:=YhA (c:=c) (n:=m.shard) (e:=m.epoch) (r:=m.req) (now:=(Yck (topS s c) wall).1) (w:=wall);split
   ·exact Yhj h (Yfq (by omega))
   ·exact pr _ _ (Yfq (by omega))
 split
 ·refine⟨h,?_,?_⟩
  ·unfold Ye1;cases YP c m.shard with
   |none=>simp
   |some x=>
    simp only;unfold Yg9;split
    ·split<;>simp
    ·simp
  ·unfold Ye1;cases YP c m.shard with
   |none=>intro x hx;cases hx
   |some x=>
    simp only;unfold Yg9;split
    ·split
     ·rename_i t _;intro y hy;have:y=YgJ s.id m (pcs (shB x)).length t:=by simpa using hy
      subst this;exact⟨by simp[YgJ,zMs,Ybl],by simp[YgJ,zMs],by simp[YgJ,zMs]⟩
     ·intro x hx;cases hx
    ·intro x hx;cases hx
 split
 ·unfold Yis;split
  ·exact Yhj h (sl _)
  ·exact pr _ _ (sl _)
 split
 ·unfold YhM;split
  ·exact YcM h
  ·split
   ·exact YcM h
   ·exact Yi2 h hl ho (by simp) (fun x hx=>by cases hx) hm ha
 ·unfold Yku;split
  ·obtain⟨a1,a2,a3⟩:=Ylh (c:=c) (m:=m);exact pr _ _ ⟨by simp[Yin,a1,Ybl],by simp[Yin,a2],by simp[Yin,a3]⟩
  ·exact YcM h
theorem Yj2 {k n t:Nat} {s:Sto} {wall:Int} {m:Msg} (hb:Bd k n t s) (hk:k≤9000) (hn:n≤4000) (hm:m.mem.length≤4000) (ht:m.text.length≤t):OutOk (YdI s wall m):=by
 have h:Ybd s:=hb.ok (by omega) (by omega);have hl:s.owns.length≤9000:=GJ hb.1 hk;obtain⟨f1,f2,f3,-,-,f6⟩:=hb.find m.n;have hf:Ygz (Yw s m.n):=Yfr h;unfold YdI;split
 ·have hw:=Yje (k:=k) (n:=max n 4000) (t:=t) (s:=s) (m:=m) ⟨hb.1,fun o ho=>by
   obtain⟨a,b,c,d,e,f⟩:=hb.2 o ho;exact⟨by omega,by omega,by omega,d,e,f⟩⟩ (by omega) ht
  refine⟨hw.ok (by omega) (by omega),?_,?_⟩
  ·unfold Yau;split
   ·simp
   ·split
    ·simp
    ·have:=(YdW (r:=(Yw s m.n).rep) (w:=Yd8 m)).1;have h2:(Yc9 (Yw s m.n) (hrd s m).1).length≤n:=by
      unfold Yc9;split
      ·exact f3
      ·simp
     simp only[Ge,Yai,Gj];unfold hrd at *
     omega
  ·unfold Yau;split
   ·intro x hx;cases hx
   ·split
    ·intro x hx;cases hx
    ·intro x hx;rcases GT.1 hx with hx|hx
     ·refine Yhq (n:=0) (by omega) (fun w hw=>?_) x hx;rw[((YdW (r:=(Yw s m.n).rep) (w:=Yd8 m)).2 w hw).2];simp
     ·unfold Yc9 at hx;split at hx
      ·exact f6 x hx
      ·cases hx
 ·split
  ·unfold YhJ;split
   ·split
    ·exact YcM h
    ·obtain⟨l1,l2,l3,l4⟩:=YhK (r:=(Yw s m.n).rep) (v:=m.epoch) (l:=m.mem) (by omega) (by omega);have hw:(∀w∈(Yae (Yw s m.n).rep m.epoch m.mem).2.1,w.members.length≤4000)∧(Yae (Yw s m.n).rep m.epoch m.mem).2.1.length≤4000:=by
      unfold Yae;split
      ·split
       ·exact⟨fun w hw=>GJ (Ygi w hw) (by omega),GJ Ybu (by omega)⟩
       ·split
        ·exact⟨fun w hw=>(by cases hw),by simp⟩
        ·split
         ·exact⟨fun w hw=>(by cases hw),by simp⟩
         ·exact⟨fun w hw=>GJ (Ygi w hw) (by simpa [Y5] using hm),GJ Ybu (by simpa [Y5] using hm)⟩
      ·exact⟨fun w hw=>(by cases hw),by simp⟩
     refine⟨Yi5 h (by omega) ⟨⟨l1,by simp only;omega⟩,by simp,fun x hx=>by cases hx⟩,?_,fun x hx=>?_⟩
     ·simp only[Ge,Yai,Gj,List.length_cons,List.length_nil];omega
     ·rcases GT.1 hx with hx|hx
      ·exact Yhq (by omega) hw.1 x hx
      ·have:x=Yij s.id m (YI (Yae (Yw s m.n).rep m.epoch m.mem).1):=by simpa using hx
       subst this;exact⟨by simp[Yij,zMs,Ybl],by simp[Yij,zMs],by simp[Yij,zMs]⟩
   ·exact YcM h
  ·unfold YeI;split
   ·split
    ·exact YcM h
    ·split
     ·exact YkD h (by omega) hf (by omega) (by omega)
     ·exact YcM h
   ·split
    ·exact Yhj h (Yfq (by simp[Ybl]))
    ·exact YcM h
section
variable {k:List UInt8} {t:Stamp} {told:Bool} {v:Option (List UInt8)}
end
structure Act where
 kind:Int
 id:Int
 epoch:Int
 n:Int
 other:Int
 at_:Stamp
 key:List UInt8
 req:Rq
section
variable {p q:Int} {a:Ans}
end
theorem Ylx {c:List Ver} {v:Ver}:(addC c v).2≤9:=by
 unfold addC
 repeat' split
 all_goals simp
theorem YlS {l:List Entr} {k:List UInt8} {v:Ver}:(YaV l k v).2≤9:=by
 have:=Ylx (c:=oldC k l) (v:=v);unfold YaV
 repeat' split
 all_goals first|exact this|simp
theorem YiM {o:Ans} {s:Shd} {r:Rq} {now:Stamp}:(YT o s r now).2≤9:=by
 unfold YT
 repeat' split
 all_goals first|exact YlS|simp
theorem Ykg {t:List Done} {d:Done}:(Yay t d).2≤10:=by
 unfold Yay
 repeat' split
 all_goals simp
theorem YgF {t:List Done} {c q:Int} (h:Yag t c q=2):YA t=true∧∃d,Ym t c=some d∧d.req=q:=by
 unfold Yag at h;split at h
 ·rename_i hc;rw[Gc] at hc;refine⟨hc.1,?_⟩;cases z:Ym t c with
  |none=>rw[z] at h;simp at h
  |some d=>
   rw[z] at h;simp only at h;split at h
   ·simp at h
   ·split at h
    ·rename_i h1;exact⟨d,rfl,h1.symm⟩
    ·simp at h
 ·simp at h
theorem YlK {a b:List UInt8} (h:ltS a b=true):a≠b:=by
 rintro rfl;rw[YaG,Ybg] at h;omega
theorem Yhh {l:List Entr} {e:Entr} (hr:ixR l=true) (he:e∈l):ofI e.key l=e.chain:=by
 obtain⟨-,hp,-⟩:=YaA.1 hr;unfold ofI
 induction l with
 |nil=>cases he
 |cons a l ih=>
  obtain⟨h1,h2⟩:=GV.1 hp;rcases GI.1 he with rfl|he
  ·simp
  ·have:=YlK (h1 e he);rw[List.find?_cons,Gp this];exact ih (YdB hr (List.sublist_cons_self ..)) he h2
def GrowS (l l':List Entr):Prop:=∀e∈l,e.chain <+:ofI e.key l'
theorem YdV {l:List Entr} (hr:ixR l=true):GrowS l l:=fun e he=>by rw[Yhh hr he];exact List.prefix_refl _
theorem Yju {l:List Entr} {k:List UInt8} {c:List Ver} {e:Entr} (hr:ixR l=true) (hk:keyR k=true) (he:e∈l) (hne:e.key≠k):e∈Ycm l k c:=by
 unfold Ycm;rw[←G4 (YL k l) l] at he;rcases GT.1 he with he|he
 ·exact GT.2 (.inl he)
 ·refine GT.2 (.inr (G5 _ ?_));cases q:YW k l with
  |false=>simpa using he
  |true=>
   obtain⟨x,hx,hkx⟩:=Ydv hr hk q;obtain⟨hi,hx⟩:=List.getElem?_eq_some_iff.1 hx;rw[GaI hi,hx] at he;rcases GI.1 he with rfl|he
   ·exact absurd hkx hne
   ·simpa using he
theorem YjY {l:List Entr} {k:List UInt8} {v:Ver} (h:(YaV l k v).2=0):GrowS l (YaV l k v).1:=fun e he=>by
 obtain⟨h1,h2,h3,-,-,h6⟩:=Yhm h;rw[h3] at h6 ⊢;by_cases hk:e.key=k
 ·have hm:(⟨k,oldC k l++[v]⟩:Entr)∈Ycm l k (oldC k l++[v]):=GT.2 (.inr (GR ..));have h7:=Yhh h6 hm;simp only at h7;rw[hk,h7];have:=Yhh h1 he;rw[hk,(Yil h1 h2).1] at this;rw[←this];exact List.prefix_append _ _
 ·rw[Yhh h6 (Yju h1 h2 he hk)];exact List.prefix_refl _
theorem Yl2:Ya ⟨0,0,0⟩=true:=by decide
theorem YjU {e:Int}:Ya (fault e).at_=true:=Yl2
theorem YkB {c:List Ver} {t:Stamp} {v:Ver} (h:atC t c=some v):YS v=true:=by
 unfold atC at h;split at h
 ·rename_i hc;split at h
  ·cases h
  ·have:=List.mem_of_getElem? h;simp only[Yg,Gc] at hc;exact Yea hc.1 v this
 ·cases h
theorem Yki {l:List Entr} {k:List UInt8} {t:Stamp} {v:Ver} (h:Yco l k t=some v):Ya v.at_=true:=by
 unfold Yco at h;split at h
 ·split at h
  ·have:=YkB h;simp only[YS,Gc] at this;exact this.1.1
  ·cases h
 ·cases h
theorem Yjs {s:Shd} {k:List UInt8} {t:Stamp}:Ya (YF s k t).at_=true∧(YF s k t).err=0:=by
 unfold YF;split
 ·rename_i v h;exact⟨Yki h,rfl⟩
 ·exact⟨YjU,rfl⟩
theorem YhH {d:Done}:∀{t:List Done},YaT (Ybm t d) d.client=d.req
 |[]=>by simp[Ybm,YaT]
 |x::l=>by
  rw[Ybm];split
  ·simp[YaT]
  ·split
   ·simp[YaT]
   ·rename_i h1 h2;rw[YaT,Gn h2,YhH]
theorem Yk6 {s s':Shd} (h:s'.id=s.id):putC [s] s'=[s']:=by
 rw[putC,h,Gn (by omega),Gr rfl]
def AnsOk (r:Rq) (s':Shd) (a:Ans):Prop:=(a.err=0∨a.err=15)→Ya a.at_=true∧(r.kind≤3→YaT s'.done r.client=r.req)
theorem YgA {r:Rq} {s':Shd} {e:Int} (h:e≠0) (h':e≠15):AnsOk r s' (fault e):=fun ha=>by
 simp only[fault] at ha;omega
theorem YjF {c:Cel} {s:Shd} {r:Rq} {now:Stamp} (hc:c.shards=[s]) (hs:shR s=true) (hn:Ya now=true) :
  ∃s',(YH c s r now).1.shards=[s']∧GrowS s.ents s'.ents∧AnsOk r s' (YH c s r now).2:=by
 have hr:=Yar hs
 have g:=YdV hr.2.1
 have ft:∀e,e≠0→e≠15→∃s',c.shards=[s']∧GrowS s.ents s'.ents∧AnsOk r s' (fault e):=fun e h1 h2=>⟨s,hc,g,YgA h1 h2⟩
 unfold YH
 split
 ·rename_i h2
  refine⟨s,hc,g,fun _=>?_⟩
  obtain⟨h3,d,h4,h5⟩:=YgF h2
  have hd:Yb7 s.done r.client=some d:=by unfold Yb7;rw[Gr h3,h4]
  rw[hd,Option.getD_some]
  refine⟨?_,fun _=>by rw[Ykk,h4];exact h5⟩
  simp only[YA,Gc] at h3
  have:=YcA h3.1 d (Yg0 h4)
  simp only[rowR,YbX,Gc] at this
  exact this.2.2.2.2.1
 ·split
  ·exact ft 10 (by decide) (by decide)
  ·split
   ·exact ft 1 (by decide) (by decide)
   ·split
    ·rename_i h
     have:=YiM (o:=YF s r.key c.top) (s:=s) (r:=r) (now:=now)
     exact ft _ h (by omega)
    ·split
     ·rename_i h
      have:=Ykg (t:=s.done) (d:=⟨r.client,r.req,YaE (YF s r.key c.top) r now⟩)
      exact ft _ h (by omega)
     ·rename_i h1 h2
      have h1:(YT (YF s r.key c.top) s r now).2=0:=by simpa using h1
      have h2:(Yay s.done ⟨r.client,r.req,YaE (YF s r.key c.top) r now⟩).2=0:=by simpa using h2
      obtain⟨-,-,h3,-⟩:=Yey h2
      refine⟨{s with ents:=(YT (YF s r.key c.top) s r now).1,done:=(Yay s.done ⟨r.client,r.req,YaE (YF s r.key c.top) r now⟩).1},?_,?_,fun _=>⟨?_,fun _=>?_⟩⟩
      ·simp only[hc]
       exact Yk6 rfl
      ·simp only
       rcases YfO h1 hr.2.1 with e|⟨v,-,e,e2⟩
       ·rw[e];exact g
       ·rw[e];exact YjY e2
      ·unfold YaE
       split<;>exact hn
      ·simp only[h3]
       exact YhH (d:=⟨r.client,r.req,YaE (YF s r.key c.top) r now⟩)
theorem YlC {c:Cel} {s:Shd} {n e:Int} {r:Rq} {now:Stamp} {w:Int} (hc:Yy c=true) (hs:c.shards=[s]) :
  ∃s',(doC c n e r now w).1.shards=[s']∧GrowS s.ents s'.ents∧AnsOk r s' (doC c n e r now w).2:=by
 have hsr:shR s=true:=((Yt.1 hc).2.2.2.2 s (by rw[hs];exact GR ..)).2.1
 have hr:=Yar hsr
 have g:=YdV hr.2.1
 have ft:∀e,e≠0→e≠15→∃s',c.shards=[s']∧GrowS s.ents s'.ents∧AnsOk r s' (fault e):=fun e h1 h2=>⟨s,hs,g,YgA h1 h2⟩
 unfold doC
 split
 ·rename_i hq
  simp only[Gc] at hq
  obtain⟨-,-,-,-,hn,hq⟩:=hq
  cases q:YY c.shards n with
  |none=>exact ft 10 (by decide) (by decide)
  |some s0=>
   have hm:=(Yo q).1
   rw[hs] at hm
   have:s0=s:=by simpa using hm
   subst this
   simp only
   split
   ·exact ft 10 (by decide) (by decide)
   ·split
    ·exact ft 11 (by decide) (by decide)
    ·split
     ·exact YjF hs hsr hn
     ·rename_i hw
      have hk:¬r.kind≤3:=by
       simp only[rqR,Gc,Gi] at hq;simp only[wrR,G2,Gi] at hw;omega
      have hat:Ya r.at_=true:=by
       simp only[rqR,Gc] at hq;exact hq.2.2.2.2.2.2.2.2.1
      split
      ·exact⟨s0,hs,g,fun _=>⟨Yjs.1,fun h=>absurd h hk⟩⟩
      ·unfold Ya4
       split
       ·exact ft 13 (by decide) (by decide)
       ·split
        ·exact ft 12 (by decide) (by decide)
        ·refine⟨s0,hs,g,fun _=>⟨?_,fun h=>absurd h hk⟩⟩
         simp only
         split
         ·unfold Ygq;split<;>exact hat
         ·unfold Yfj
          simp only
          split<;>exact hat
 ·exact ft 1 (by decide) (by decide)
def Ya3 (k:Int) (q:Rq):Msg:={zMs with kind:=1,from_:=11,to:=k,n:=1,shard:=1,epoch:=1,req:=q}
def Yb6 (k:Int) (c:Cel):Msg:={zMs with kind:=35,from_:=1,to:=2,n:=1,epoch:=1,of_:=k,mem:=[1,2],text:=cB c}
def Ydb (k:Int):Msg:={zMs with kind:=36,from_:=2,to:=1,n:=1,epoch:=1,of_:=k}
structure Gw where
 n:Int
 b:Cel
 t:Cel
 busy:Bool
 m:Int
 f:Cel
 outs:List Msg
def ldR (g:Gw):Rep:=⟨1,1,[1,2],g.n,cB g.b,cB g.t,if g.busy then [1] else [1,2]⟩
def flR (g:Gw):Rep:=⟨2,1,[1,2],g.m,cB g.f,cB g.f,[]⟩
def oC3:Own:=⟨3,⟨1,1,[3,1],1,Ydc,Ydc,[]⟩,[]⟩
def oC2:Own:=⟨2,⟨2,1,[2,3],1,Ydc,Ydc,[2,3]⟩,[]⟩
def stW (g:Gw):Nat→Sto
 |0=>⟨1,[⟨1,ldR g,g.outs⟩,oC3]⟩
 |1=>⟨2,[⟨1,flR g,[]⟩,oC2]⟩
 |_=>newS 3
def Ycv (l:List Rq) (r:Int):Rq:=l.foldl (fun a q=>if q.client=1∧q.req=r then q else a) Ycj
def Ylu (c:Cel):Prop:=∃s,c.shards=[s]
def Yll (b t:Cel):Prop:=∃s s',b.shards=[s]∧t.shards=[s']∧GrowS s.ents s'.ents
def HasQ (t:Cel) (asks:List Rq) (r:Int):Prop:=((Ycv asks r).client=1∧(Ycv asks r).req=r)∧((Ycv asks r).kind≤3→∃s,t.shards=[s]∧YaT s.done 1=r)
structure Wait (g:Gw) (asks:List Rq) (i:Nat) (q:Rq) (a:Ans):Prop where
 cl:q.client=1
 r1:1≤q.req∧q.req≤i
 has:HasQ g.t asks q.req
 er:a.err=0∨a.err=15
 st:Ya a.at_=true
 it:a.items.length≤8
def Yh0 (g:Gw) (x:Msg):Prop:=(∃k c,x=Yb6 k c∧1≤k∧k≤g.n∧Yy c=true∧(k=g.n→c=g.t))∨∃k,x=Ydb k∧1≤k∧k≤g.m
structure OkW (g:Gw) (i:Nat) (net:List Msg) (asks:List Rq):Prop where
 hb:Yy g.b=true
 ht:Yy g.t=true
 hf:Yy g.f=true
 ob:Ylu g.b
 ot:Ylu g.t
 gr:Yll g.b g.t
 n1:1≤g.m∧g.m≤g.n∧g.n≤i+1
 idle:g.busy=false→g.b=g.t∧g.m=g.n∧g.f=g.t∧g.outs=[]
 bus:g.busy=true→(g.m=g.n∧g.f=g.t∨g.m=g.n-1)∧∃q a,g.outs=[doneM 1 (Ya3 1 q) a]∧Wait g asks i q a
 net:∀x∈net,Yh0 g x
 ak:∀q∈asks,q.client=1∧q.req≤i
def SayOk (g:Gw) (asks:List Rq) (x:Msg):Prop:=Yh0 g x∨(x.kind=2∧x.to=11∧(x.ans.err≠0∧x.ans.err≠15∨g.busy=false∧∃q a,x=doneM 1 (Ya3 1 q) a∧q.client=1∧HasQ g.t asks q.req))
theorem Ylq {g:Gw} {i:Nat} (hi:i≤1000) (h1:1≤g.n∧g.n≤i+1) (h2:g.busy=false→g.b=g.t):RP (ldR g):=by
 have s12:SetP [1,2]:=by decide
 have s1:SetP [1]:=by decide
 refine⟨by simp[ldR],by simp[ldR],by simp only[ldR];omega,s12,?_,?_,fun _=>by simp[ldR],fun _=>⟨?_,?_⟩,fun h=>by simp[ldR,Yp] at h⟩
 ·simp only[ldR];cases g.busy<;>simp[s1,s12]
 ·intro a ha;simp only[ldR] at ha ⊢;cases hb:g.busy<;>rw[hb] at ha<;>simp at ha ⊢<;>omega
 ·simp only[ldR];cases g.busy<;>simp
 ·intro ha;cases hb:g.busy with
  |false=>simp only[ldR,h2 hb]
  |true=>simp[Yby,ldR,hb] at ha
theorem Ymz {g:Gw} {i:Nat} (hi:i≤1000) (h1:1≤g.m∧g.m≤i+1):RP (flR g):=by
 have s12:SetP [1,2]:=by decide
 exact⟨by simp[flR],by simp[flR],by simp only[flR];omega,s12,Yc5,fun a ha=>by simp[flR] at ha,fun _=>by simp[flR],fun h=>by simp[flR,Yp] at h,fun _=>⟨rfl,rfl⟩⟩
theorem Ycw {g:Gw}:Yp (ldR g)=true:=by simp[ldR,Yp]
theorem YfR {g:Gw}:Yp (flR g)=false:=by simp[flR,Yp]
theorem Yih {g:Gw}:Yby (ldR g)=!g.busy:=by cases h:g.busy<;>simp[ldR,Yby,h]
section
variable {g:Gw} {i:Nat} {net:List Msg} {asks:List Rq}
theorem OkW.rl (h:OkW g i net asks) (hi:i≤1000):rightB (ldR g)=true:=(Ybt _).2 (Ylq hi ⟨by have:=h.n1;omega,h.n1.2.2⟩ fun hb=>(h.idle hb).1)
theorem OkW.rf (h:OkW g i net asks) (hi:i≤1000):rightB (flR g)=true:=(Ybt _).2 (Ymz hi ⟨h.n1.1,by have:=h.n1;omega⟩)
theorem OkW.bl (h:OkW g i net asks) (hi:i≤1000):YI (ldR g)=g.busy:=by
 unfold YI;rw[h.rl hi,Ycw,Yih];simp
theorem OkW.bf (h:OkW g i net asks):YI (flR g)=false:=by
 unfold YI;rw[YfR];simp
theorem YeB {c:Cel} (h:Yy c=true):Yab (cB c)=true:=by
 unfold Yab;rw[YcQ.2 ⟨rfl,h⟩]
 rfl
theorem YlN:YbA 1 1 oC3=true:=by decide +kernel
theorem YlM:YbA 2 1 oC2=true:=by decide +kernel
theorem YmA:Ybw (newS 3)=true:=by decide +kernel
theorem Yh9 {q:Rq} {a:Ans} (h:Wait g asks i q a) (hi:i≤1000):outQ 1 (doneM 1 (Ya3 1 q) a)=true:=by
 have h1:=h.cl;have h2:=h.r1;have h3:=h.er;have h4:=h.it;have e0:Yc8 (doneM 1 (Ya3 1 q) a)=true:=by
  show (!decide ((2:Int)<1)&&(!decide (37<(2:Int))&&(!decide (a.err<0)&&(!decide (16<a.err)&&(!decide (8<(a.items.length:Int))&&(!decide (8<((0:Nat):Int))&&!decide (8<((0:Nat):Int))))))))=true
  simp only[Gc,GN,Gq];omega
 have e1:Ycn (doneM 1 (Ya3 1 q) a)=true:=by
  show (YN 1&&(YN 11&&(YN 0&&(YN 0&&(YN 0&&(YN 0&&(YN 1&&(YN 0&&(YN q.client&&(YN q.req&&(YN 0&&YN 0)))))))))))=true
  simp only[YN,frQ,Gc,GN,Gap,Gq];omega
 simp only[outQ,Yik,e0,e1,GP,Gc,Gi];refine⟨⟨rfl,rfl,?_,?_,?_⟩,rfl⟩
 ·exact Yl2
 ·exact Yl2
 ·exact h.st
theorem OkW.right (h:OkW g i net asks) (hi:i≤1000) (k:Nat):Ybw (stW g k)=true:=by
 match k with
 |0=>
  have ho:YbA 1 0 ⟨1,ldR g,g.outs⟩=true:=by
   have e1:Yab (ldR g).base=true:=YeB h.hb;have e2:Yab (ldR g).text=true:=YeB h.ht;simp only[YbA,ownQ1,Yc2,h.rl hi,h.bl hi,e1,e2,GU,Gc,G2];refine⟨by simp[Yb0,ldR],?_⟩;cases hb:g.busy with
   |false=>rw[(h.idle hb).2.2.2];simp
   |true=>
    obtain⟨-,q,a,e,hw⟩:=h.bus hb;rw[e];exact⟨.inr rfl,by simp[Yh9 hw hi]⟩
  simp only[Ybw,stW,Ycd,ho,YlN,idQ]
  decide
 |1=>
  have ho:YbA 2 0 ⟨1,flR g,[]⟩=true:=by
   have e1:Yab (flR g).base=true:=YeB h.hf;have e2:Yab (flR g).text=true:=YeB h.hf;simp only[YbA,ownQ1,Yc2,h.rf hi,e1,e2,GU,Gc,G2];exact⟨by simp[Yb0,flR],by simp⟩
  simp only[Ybw,stW,Ycd,ho,YlM,idQ]
  decide
 |k+2=>exact YmA
theorem Yji:atO (stW g 0) 1=some ⟨1,ldR g,g.outs⟩:=by simp[atO,stW,YcE]
theorem Yly:atO (stW g 1) 1=some ⟨1,flR g,[]⟩:=by simp[atO,stW,YcE]
theorem YmI {k:Nat}:atO (stW g (k+2)) 1=none:=by simp[atO,stW,YcE,newS]
theorem YfQ:Yw (stW g 0) 1=⟨1,ldR g,g.outs⟩:=YfP Yji
theorem Yia:Yw (stW g 1) 1=⟨1,flR g,[]⟩:=YfP Yly
theorem Ylp {o:Own} (h:o.cell=1):Ybf (stW g 0).owns o=[o,oC3]:=by
 simp only[stW,Ybf,h];simp
theorem Ymy {o:Own} (h:o.cell=1):Ybf (stW g 1).owns o=[o,oC2]:=by
 simp only[stW,Ybf,h];simp
end
def YcF (s:Sto) (wall:Int) (m:Msg):Sto×List Msg:=if YaM s wall m then YdI s wall m else (s,[])
structure StepW (g g':Gw):Prop where
 n:g.n≤g'.n
 m:g.m≤g'.m
 t:g'.n=g.n→g'.t=g.t
 b:g'.b=g.b∨g'.b=g.t
theorem Ych {g:Gw}:StepW g g:=⟨by omega,by omega,fun _=>rfl,.inl rfl⟩
theorem Yf5 {g g':Gw} {x:Msg} (h:StepW g g') (hx:Yh0 g x):Yh0 g' x:=by
 rcases hx with ⟨k,c,e,h1,h2,h3,h4⟩|⟨k,e,h1,h2⟩
 ·refine .inl ⟨k,c,e,h1,by have:=h.n;omega,h3,fun hk=>?_⟩;have hn:g'.n=g.n:=by have:=h.n;omega
  rw[h.t hn];exact h4 (by omega)
 ·exact .inr ⟨k,e,h1,by have:=h.m;omega⟩
section
variable {g:Gw} {i:Nat} {net:List Msg} {asks:List Rq}
theorem YeN {q:Rq} {r:Int}:Ycv (asks++[q]) r=if q.client=1∧q.req=r then q else Ycv asks r:=by simp[Ycv]
theorem Yj1 {t:Cel} {q:Rq} {r:Int} (h:HasQ t asks r) (hr:q.req≠r):HasQ t (asks++[q]) r:=by
 unfold HasQ at h ⊢;rw[YeN,Gn fun e=>hr e.2];exact h
theorem OkW.more (h:OkW g i net asks):OkW g (i+1) net asks:=
 ⟨h.hb,h.ht,h.hf,h.ob,h.ot,h.gr,by have:=h.n1;omega,h.idle,fun hb=>by
  obtain⟨h1,q,a,h2,h3⟩:=h.bus hb;exact⟨h1,q,a,h2,⟨h3.cl,by have:=h3.r1;omega,h3.has,h3.er,h3.st,h3.it⟩⟩,h.net,fun q hq=>by have:=h.ak q hq;omega⟩
theorem OkW.ask (h:OkW g i net asks) {q:Rq} (hq:q.client=1) (hr:q.req=i+1):OkW g (i+1) net (asks++[q]):=
 ⟨h.hb,h.ht,h.hf,h.ob,h.ot,h.gr,by have:=h.n1;omega,h.idle,fun hb=>by
  obtain⟨h1,q',a,h2,h3⟩:=h.bus hb;exact⟨h1,q',a,h2,⟨h3.cl,by have:=h3.r1;omega,Yj1 h3.has (by have:=h3.r1;omega),h3.er,h3.st,h3.it⟩⟩,h.net,fun q' hq'=>by
   rcases GT.1 hq' with hq'|hq'
   ·have:=h.ak q' hq';omega
   ·have:q'=q:=by simpa using hq'
    subst this;omega⟩
theorem Yk0 {a:Stamp} {w:Int} (h:(Yck a w).2≠0):(Yck a w).2≠15:=by
 unfold Yck at h ⊢;split
 ·split
  ·simp
  ·split<;>simp
 ·simp
theorem YeE {id:Int} {q:Rq} {k:Int} {a:Ans} (h:a.err≠0∧a.err≠15):SayOk g asks (doneM id (Ya3 k q) a):=.inr ⟨rfl,rfl,.inl h⟩
theorem Yk4 (h:OkW g i net asks) (hi:i≤999) (hb:g.busy=false) {d:Cel} {outs:List Msg} :
  propS (stW g 0) ⟨1,ldR g,g.outs⟩ d outs=(stW ⟨g.n+1,g.b,d,true,g.m,g.f,outs⟩ 0,[Yb6 (g.n+1) d]):=by
 have hl:Yv (ldR g) (cB d)=(ldR ⟨g.n+1,g.b,d,true,g.m,g.f,outs⟩,[⟨1,1,2,1,g.n+1,[1,2],cB d⟩],0):=by
  have hn:¬g.n=1099511627776:=by have:=h.n1;omega
  unfold Yv;rw[h.rl (by omega),Ycw,Yih,hb];simp only[GY,Gz];rw[Gn (show ¬(ldR g).n=1099511627776 from hn)]
  rfl
 have hr:rightB (ldR ⟨g.n+1,g.b,d,true,g.m,g.f,outs⟩)=true:=(Ybt _).2 (Ylq (i:=i+1) (by omega) ⟨by have:=h.n1;simp only;omega,by have:=h.n1;simp only;omega⟩ fun hb=>by simp at hb)
 have hbu:YI (ldR ⟨g.n+1,g.b,d,true,g.m,g.f,outs⟩)=true:=by
  unfold YI;rw[hr,Ycw,Yih]
  rfl
 unfold propS
 simp only[hl,hbu]
 simp only[ne_eq,not_true_eq_false,Gu,Gz,Ylp (g:=g) (o:=⟨1,ldR ⟨g.n+1,g.b,d,true,g.m,g.f,outs⟩,outs⟩) rfl,Gv]
 rfl
theorem YjI (h:OkW g i net asks) (hi:i≤999) (k:Nat) (hk:k<3) (q:Rq) (hq:q.client=1) (hr:q.req=i+1) (wall:Int) :
  ∃g' l,YcF (stW g k) wall (Ya3 ((k:Int)+1) q)=(stW g' k,l)∧(∀j,j≠k→stW g' j=stW g j)∧StepW g g'∧OkW g' (i+1) net (asks++[q])∧∀x∈l,SayOk g' (asks++[q]) x:=by
 have same:∀l,YcF (stW g k) wall (Ya3 ((k:Int)+1) q)=(stW g k,l)→(∀x∈l,SayOk g (asks++[q]) x)→∃g' l,YcF (stW g k) wall (Ya3 ((k:Int)+1) q)=(stW g' k,l)∧(∀j,j≠k→stW g' j=stW g j)∧StepW g g'∧OkW g' (i+1) net (asks++[q])∧∀x∈l,SayOk g' (asks++[q]) x:=
  fun l h1 h2=>⟨g,l,h1,fun _ _=>rfl,Ych,h.ask hq hr,h2⟩
 have one:∀{x:Msg},SayOk g (asks++[q]) x→∀y∈[x],SayOk g (asks++[q]) y:=fun {x} hx y hy=>by
  have:y=x:=by simpa using hy
  subst this;exact hx
 unfold YcF at same ⊢
 cases hok:YaM (stW g k) wall (Ya3 ((k:Int)+1) q) with
 |false=>rw[hok] at same;exact same [] rfl fun x hx=>by cases hx
 |true=>
 rw[hok] at same
 simp only[Gz] at same ⊢
 have e0:YdI (stW g k) wall (Ya3 ((k:Int)+1) q)=YeI (stW g k) wall (Ya3 ((k:Int)+1) q):=by
  unfold YdI;rw[show (Ya3 ((k:Int)+1) q).kind=1 from rfl,Gn (by decide),Gn (by decide)]
 rw[e0] at same ⊢
 have stale:((atO (stW g k) 1).isSome&&Yp (Yw (stW g k) 1).rep)=false→YeI (stW g k) wall (Ya3 ((k:Int)+1) q)=(stW g k,[doneM (stW g k).id (Ya3 ((k:Int)+1) q) {Ybl with err:=10}]):=fun hf=>by
  unfold YeI;rw[show (Ya3 ((k:Int)+1) q).n=1 from rfl,hf,Gn (by simp),show (Ya3 ((k:Int)+1) q).kind=1 from rfl,Gr rfl]
 match k,hk with
 |1,_=>exact same _ (stale (by rw[Yia];simp[YfR])) (one (YeE ⟨by simp,by simp⟩))
 |2,_=>exact same _ (stale (by rw[YmI (k:=0)];simp)) (one (YeE ⟨by simp,by simp⟩))
 |0,_=>
  have hl:=h.bl (by omega)
  cases hb:g.busy with
  |true=>
   refine same [] ?_ fun x hx=>by cases hx
   unfold YeI
   rw[show (Ya3 (((0:Nat):Int)+1) q).n=1 from rfl,Yji,YfQ]
   simp only[Ycw,hl,hb]
   rfl
  |false=>
   obtain⟨i1,i2,i3,i4⟩:=h.idle hb
   have e1:YeI (stW g 0) wall (Ya3 (((0:Nat):Int)+1) q)=doS (stW g 0) ⟨1,ldR g,g.outs⟩ g.b wall (Ya3 (((0:Nat):Int)+1) q):=by
    unfold YeI;rw[show (Ya3 (((0:Nat):Int)+1) q).n=1 from rfl,Yji,YfQ];simp only[Ycw,hl,hb];have ht:tkC (ldR g).base=some g.b:=YcQ.2 ⟨rfl,h.hb⟩;rw[ht]
    rfl
   rw[e1] at same ⊢
   obtain⟨s,hs⟩:=h.ob
   unfold doS at same ⊢
   by_cases c1:(Yck (topS (stW g 0) g.b) wall).2≠0
   ·rw[Gr c1] at same
    rw[Gr c1]
    exact same _ rfl (one (YeE ⟨c1,Yk0 c1⟩))
   ·rw[Gn c1] at same
    rw[Gn c1]
    obtain⟨s',w1,w2,w3⟩:=YlC (n:=(Ya3 (((0:Nat):Int)+1) q).shard) (e:=(Ya3 (((0:Nat):Int)+1) q).epoch) (r:=(Ya3 (((0:Nat):Int)+1) q).req) (now:=(Yck (topS (stW g 0) g.b) wall).1) (w:=wall) h.hb hs
    have hkc:=(Yft (n:=(Ya3 (((0:Nat):Int)+1) q).shard) (e:=(Ya3 (((0:Nat):Int)+1) q).epoch) (r:=(Ya3 (((0:Nat):Int)+1) q).req) (now:=(Yck (topS (stW g 0) g.b) wall).1) (w:=wall) h.hb).1
    have hit:=YhA (c:=g.b) (n:=(Ya3 (((0:Nat):Int)+1) q).shard) (e:=(Ya3 (((0:Nat):Int)+1) q).epoch) (r:=(Ya3 (((0:Nat):Int)+1) q).req) (now:=(Yck (topS (stW g 0) g.b) wall).1) (w:=wall)
    generalize doC g.b (Ya3 (((0:Nat):Int)+1) q).shard (Ya3 (((0:Nat):Int)+1) q).epoch (Ya3 (((0:Nat):Int)+1) q).req (Yck (topS (stW g 0) g.b) wall).1 wall=p at *
    obtain⟨d,a⟩:=p
    simp only at w1 w2 w3 hkc hit same ⊢
    by_cases c2:a.err≠0∧a.err≠15
    ·rw[Gr c2] at same
     rw[Gr c2]
     exact same _ rfl (one (YeE c2))
    ·rw[Gn c2]
     have he:a.err=0∨a.err=15:=by
      by_cases e0:a.err=0
      ·exact .inl e0
      ·exact .inr (Decidable.byContradiction fun e=>c2 ⟨e0,e⟩)
     obtain⟨a1,a2⟩:=w3 he
     refine⟨⟨g.n+1,g.b,d,true,g.m,g.f,[doneM 1 (Ya3 1 q) a]⟩,_,Yk4 h hi hb,fun j hj=>?_,⟨by simp only;omega,by simp only;omega,fun e=>(by simp only at e;omega),.inl rfl⟩,⟨h.hb,hkc,h.hf,h.ob,⟨s',w1⟩,⟨s,s',hs,w1,w2⟩,by have:=h.n1;simp only;omega,fun hf=>(by simp at hf),fun _=>⟨.inr (by simp only;omega),q,a,rfl,hq,by omega,⟨by rw[YeN,Gr ⟨hq,rfl⟩];exact⟨hq,rfl⟩,fun hk=>⟨s',w1,?_⟩⟩,he,a1,hit⟩,fun x hx=>?_,(h.ask hq hr).ak⟩,fun x hx=>?_⟩
     ·match j,hj with
      |1,_=>rfl
      |j+2,_=>rfl
     ·rw[YeN,Gr ⟨hq,rfl⟩] at hk
      have:=a2 hk
      rwa [show (Ya3 (((0:Nat):Int)+1) q).req=q from rfl,hq] at this
     ·exact Yf5 (g:=g) ⟨by simp only;omega,by simp only;omega,fun e=>(by simp only at e;omega),.inl rfl⟩ (h.net x hx)
     ·have:x=Yb6 (g.n+1) d:=by simpa using hx
      subst this
      exact .inl (.inl ⟨g.n+1,d,rfl,by have:=h.n1;omega,by simp only;omega,hkc,fun _=>rfl⟩)
theorem YkQ (h:OkW g i net asks) (hi:i≤1000) {k:Int} {tx:List UInt8} (hk:1≤k∧k≤g.n) :
  Yx (flR g) ⟨1,1,2,1,k,[1,2],tx⟩=if k<g.m then (flR g,[]) else if g.m<k then (⟨2,1,[1,2],k,tx,tx,[]⟩,[⟨2,2,1,1,k,[],[]⟩]) else (flR g,[⟨2,2,1,1,g.m,[],[]⟩]):=by
 have hm:YbH [1,2] 2 1=true:=by decide
 have hv:Ybz 1 1=true:=by decide
 have hn:Ybz k 1=true:=by
  simp only[Ybz,Gc,Gi];have:=h.n1;omega
 unfold Yx
 rw[h.rf hi,Gr rfl,Gr (show (2:Int)=(flR g).id from rfl),Gr rfl]
 unfold Yaj
 simp only[show (flR g).id=2 from rfl,hm,hv,hn]
 unfold shipT
 simp only[YfR,show (flR g).view=1 from rfl,show (flR g).n=g.m from rfl,show (flR g).id=2 from rfl,Y8]
 by_cases c1:k<g.m
 ·simp[c1]
 ·by_cases c2:g.m<k
  ·simp[c1,c2]
  ·simp[c1,c2]
theorem YkV (h:OkW g i net asks) (hi:i≤1000) {k:Int} :
  Yx (ldR g) ⟨2,2,1,1,k,[],[]⟩=if g.busy=true∧k=g.n then (⟨1,1,[1,2],g.n,cB g.t,cB g.t,[1,2]⟩,[]) else (ldR g,[]):=by
 unfold Yx
 rw[h.rl hi,Gr rfl,Gr (show (1:Int)=(ldR g).id from rfl),Gn (show ¬(2:Int)=1 by decide),Gr rfl]
 have hb:Yca (ldR g) ⟨2,2,1,1,k,[],[]⟩=decide (g.busy=true∧k=g.n):=by
  unfold Yca;rw[Ycw];cases q:g.busy<;>simp[ldR,q]
 rw[hb]
 by_cases c:g.busy=true∧k=g.n
 ·rw[Gr c,GD c,Gr rfl]
  simp[YaU,YaO,ldR,c.1]
 ·rw[Gn c,Gp c]
  simp
theorem YjB (h:OkW g i net asks) (hi:i≤1000) {k:Int} {c:Cel} (hk:1≤k∧k≤g.n) (hc:Yy c=true) (ht:k=g.n→c=g.t) (wall:Int) :
  ∃g' l,YcF (stW g 1) wall (Yb6 k c)=(stW g' 1,l)∧(∀j,j≠1→stW g' j=stW g j)∧StepW g g'∧OkW g' i net asks∧∀x∈l,SayOk g' asks x:=by
 unfold YcF
 cases hok:YaM (stW g 1) wall (Yb6 k c) with
 |false=>exact⟨g,[],rfl,fun _ _=>rfl,Ych,h,fun x hx=>by cases hx⟩
 |true=>
 rw[Gr rfl]
 have e0:YdI (stW g 1) wall (Yb6 k c)=Yau (stW g 1) (Yb6 k c):=by
  unfold YdI;rw[show (Yb6 k c).kind=35 from rfl,Gr (by decide)]
 have hno:noWd (stW g 1) (Yb6 k c)=false:=by
  unfold noWd;rw[show (Yb6 k c).n=1 from rfl,Yly,show (Yb6 k c).text=cB c from rfl,YeB hc];simp
 have hh:hrd (stW g 1) (Yb6 k c)=Yx (flR g) ⟨1,1,2,1,k,[1,2],cB c⟩:=by
  unfold hrd;rw[show (Yb6 k c).n=1 from rfl,Yia]
  rfl
 rw[YkQ h hi hk] at hh
 have e1:∀r l,hrd (stW g 1) (Yb6 k c)=(r,l)→YI r=false→Yau (stW g 1) (Yb6 k c)=(⟨2,[⟨1,r,[]⟩,oC2]⟩,Yai 1 l):=fun r l hr hb=>by
  unfold Yau;rw[hno,Gn (by simp),show (Yb6 k c).n=1 from rfl,Yly,Yia,hr];simp only[Option.isSome_some,GQ,Gs,Gm,Gu];unfold Ycl Yc9;simp only[hb,h.bf,Gs,Gm,Gu,Gv];rw[Ymy rfl]
  rfl
 rw[e0]
 by_cases c1:k<g.m
 ·rw[Gr c1] at hh
  exact⟨g,_,e1 _ _ hh h.bf,fun _ _=>rfl,Ych,h,fun x hx=>by cases hx⟩
 ·rw[Gn c1] at hh
  by_cases c2:g.m<k
  ·rw[Gr c2] at hh
   have hbu:g.busy=true:=by
    cases q:g.busy with
    |true=>rfl
    |false=>have:=(h.idle q).2.1;omega
   obtain⟨b1,q,a,b2,b3⟩:=h.bus hbu
   have hkn:k=g.n:=by omega
   have hct:=ht hkn
   subst hct
   have hst:StepW g {g with m:=k,f:=g.t}:=⟨by simp only;omega,by simp only;omega,fun _=>rfl,.inl rfl⟩
   have hw:OkW {g with m:=k,f:=g.t} i net asks:=⟨h.hb,h.ht,h.ht,h.ob,h.ot,h.gr,by have:=h.n1;simp only;omega,fun hf=>(by simp only at hf;rw[hbu] at hf;cases hf),fun _=>⟨.inl ⟨hkn,rfl⟩,q,a,b2,⟨b3.cl,b3.r1,b3.has,b3.er,b3.st,b3.it⟩⟩,fun x hx=>Yf5 hst (h.net x hx),h.ak⟩
   refine⟨{g with m:=k,f:=g.t},_,e1 _ _ hh (hw.bf),fun j hj=>?_,hst,hw,fun x hx=>?_⟩
   ·match j,hj with
    |0,_=>rfl
    |j+2,_=>rfl
   ·have:x=Ydb k:=(by simpa [Yai] using hx:x=msgW 1 ⟨2,2,1,1,k,[],[]⟩)
    subst this
    exact .inl (.inr ⟨k,rfl,hk.1,by simp only;omega⟩)
  ·rw[Gn c2] at hh
   refine⟨g,_,e1 _ _ hh h.bf,fun _ _=>rfl,Ych,h,fun x hx=>?_⟩
   have:x=Ydb g.m:=(by simpa [Yai] using hx:x=msgW 1 ⟨2,2,1,1,g.m,[],[]⟩)
   subst this
   exact .inl (.inr ⟨g.m,rfl,h.n1.1,by omega⟩)
theorem YjH (h:OkW g i net asks) (hi:i≤1000) {k:Int} (hk:1≤k∧k≤g.m) (wall:Int) :
  ∃g' l,YcF (stW g 0) wall (Ydb k)=(stW g' 0,l)∧(∀j,j≠0→stW g' j=stW g j)∧StepW g g'∧OkW g' i net asks∧∀x∈l,SayOk g' asks x:=by
 unfold YcF
 cases hok:YaM (stW g 0) wall (Ydb k) with
 |false=>exact⟨g,[],rfl,fun _ _=>rfl,Ych,h,fun x hx=>by cases hx⟩
 |true=>
 rw[Gr rfl]
 have e0:YdI (stW g 0) wall (Ydb k)=Yau (stW g 0) (Ydb k):=by
  unfold YdI;rw[show (Ydb k).kind=36 from rfl,Gr (by decide)]
 have hno:noWd (stW g 0) (Ydb k)=false:=by
  unfold noWd;rw[show (Ydb k).n=1 from rfl,Yji,show (Ydb k).kind=36 from rfl];simp
 have hh:hrd (stW g 0) (Ydb k)=Yx (ldR g) ⟨2,2,1,1,k,[],[]⟩:=by
  unfold hrd;rw[show (Ydb k).n=1 from rfl,YfQ]
  rfl
 rw[YkV h hi] at hh
 have e1:∀r,hrd (stW g 0) (Ydb k)=(r,[])→Yau (stW g 0) (Ydb k)=(⟨1,[⟨1,r,if YI r then g.outs else []⟩,oC3]⟩,Yc9 ⟨1,ldR g,g.outs⟩ r):=fun r hr=>by
  unfold Yau;rw[hno,Gn (by simp),show (Ydb k).n=1 from rfl,Yji,YfQ,hr];simp only[Option.isSome_some,GQ,Gs,Gm,Gu];rw[Ylp rfl]
  rfl
 rw[e0]
 by_cases c:g.busy=true∧k=g.n
 ·rw[Gr c] at hh
  obtain⟨c1,c2⟩:=c
  obtain⟨b1,q,a,b2,b3⟩:=h.bus c1
  have hmn:g.m=g.n∧g.f=g.t:=b1.resolve_right (by omega)
  have hst:StepW g ⟨g.n,g.t,g.t,false,g.m,g.f,[]⟩:=⟨by simp only;omega,by simp only;omega,fun _=>rfl,.inr rfl⟩
  obtain⟨s,hs⟩:=h.ot
  have hsr:=(Yar ((Yt.1 h.ht).2.2.2.2 s (by rw[hs];exact GR ..)).2.1).2.1
  have hw:OkW ⟨g.n,g.t,g.t,false,g.m,g.f,[]⟩ i net asks:=⟨h.ht,h.ht,h.hf,⟨s,hs⟩,⟨s,hs⟩,⟨s,s,hs,hs,YdV hsr⟩,h.n1,fun _=>⟨rfl,hmn.1,hmn.2,rfl⟩,fun hf=>(by simp at hf),fun x hx=>Yf5 hst (h.net x hx),h.ak⟩
  have hb:=hw.bl hi
  have e2:=e1 _ hh
  have hld:(⟨1,1,[1,2],g.n,cB g.t,cB g.t,[1,2]⟩:Rep)=ldR ⟨g.n,g.t,g.t,false,g.m,g.f,[]⟩:=rfl
  rw[hld] at e2
  rw[hb] at e2
  refine⟨⟨g.n,g.t,g.t,false,g.m,g.f,[]⟩,_,e2,fun j hj=>?_,hst,hw,fun x hx=>?_⟩
  ·match j,hj with
   |1,_=>rfl
   |j+2,_=>rfl
  ·unfold Yc9 at hx
   rw[hb,hw.rl hi,Ycw,h.bl hi,c1,Gr (by rfl)] at hx
   simp only[b2] at hx
   have:x=doneM 1 (Ya3 1 q) a:=by simpa using hx
   subst this
   exact .inr ⟨rfl,rfl,.inr ⟨rfl,q,a,rfl,b3.cl,b3.has⟩⟩
 ·rw[Gn c] at hh
  have e2:=e1 _ hh
  have e3:(if YI (ldR g) then g.outs else [])=g.outs:=by
   rw[h.bl hi];cases hb:g.busy with
   |true=>rfl
   |false=>rw[(h.idle hb).2.2.2];rfl
  have e4:Yc9 ⟨1,ldR g,g.outs⟩ (ldR g)=[]:=by
   unfold Yc9;simp only;cases YI (ldR g)<;>rfl
  rw[e3,e4] at e2
  exact⟨g,_,e2,fun _ _=>rfl,Ych,h,fun x hx=>by cases hx⟩
theorem YgV (h:OkW g i net asks) (hi:i≤1000) {k:Nat} (hk:k<3):∀x∈YbE (stW g k),SayOk g asks x:=by
 have b3:YI oC3.rep=false:=by decide +kernel
 have b2:YI oC2.rep=false:=by decide +kernel
 have n3:YbE (newS 3)=[]:=by decide +kernel
 intro x hx
 match k,hk with
 |0,_=>
  have:YbE (stW g 0)=Yai 1 (if YI (ldR g) then YM (ldR g) else []):=by
   simp only[YbE,stW,GK,G3,Ybq,b3,Gv];simp[Yai]
  rw[this,h.bl hi] at hx;cases hb:g.busy with
  |false=>rw[hb] at hx;cases hx
  |true=>
   rw[hb] at hx;have e:YM (ldR g)=[⟨1,1,2,1,g.n,[1,2],cB g.t⟩]:=by simp[YM,ldR,hb]
   rw[Gr rfl,e] at hx;have:x=Yb6 g.n g.t:=(by simpa [Yai] using hx:x=msgW 1 ⟨1,1,2,1,g.n,[1,2],cB g.t⟩);subst this;exact .inl (.inl ⟨g.n,g.t,rfl,by have:=h.n1;omega,by omega,h.ht,fun _=>rfl⟩)
 |1,_=>
  have:YbE (stW g 1)=[]:=by
   simp only[YbE,stW,GK,G3,Ybq,b2,h.bf,Gv];simp[Yai]
  rw[this] at hx;cases hx
 |2,_=>
  have:YbE (stW g 2)=[]:=n3;rw[this] at hx;cases hx
end
structure Th where
 s:Nat→Sto
 net:List Msg
 asks:List Rq
def YcW (s:Nat→Sto) (v1 v2:V):List V:=YU (s 0)++(YU (s 1)++(YU (s 2)++[v1,v2]))
@[go_sem] def Ye0 (t:Th) (a b:Nat):List V:=YcW t.s (.own a 36 t.net.length) (.own b 12 t.asks.length)
def YcK (t:Th):List V:=YU (t.s 0)++(YU (t.s 1)++(YU (t.s 2)++[.tuple [.slice 36 (t.net.map Y9)],.tuple [.slice 12 (t.asks.map eRq)]]))
structure Arr2 (A:AA) (t:Th) (a b:Nat):Prop where
 ra:A a=some (36,t.net.map Y9,.live)
 rb:A b=some (12,t.asks.map eRq,.live)
 rn:a≠b
def HV (S:St) (v:Nat) (t:Th) (a b:Nat):Prop:=S.μ v=some (Ye0 t a b,false)∧Arr2 S.A t a b
theorem Ycs (s:Sto):(YU s).all V.datC=true:=rfl
theorem Yfc (s:Sto) (z:Nat):V.nslice z∉YU s:=by simp[YU,YhB]
theorem Yld (s:Sto):(YU s).length=2:=rfl
theorem YiN {A:AA} {t:Th} {a b:Nat} (h:Arr2 A t a b):Jad (Ye0 t a b) A=some (YcK t,upd (upd A a (some (36,[],.dead))) b (some (12,[],.dead))):=by
 have u1:upd A a (some (36,[],.dead)) b=some (12,t.asks.map eRq,.live):=by simp[upd,Ne.symm h.rn,h.rb]
 unfold Ye0 YcW;rw[YbG (Ycs _) (Yfc _),YbG (Ycs _) (Yfc _),YbG (Ycs _) (Yfc _)];have:=h.ra;simp only[Jcq,Jc2,Jed,this,JhE,Gj,Gz,Option.bind_some,u1,Option.map_some]
 rfl
theorem Yht {A:AA} {t:Th} {p:Nat} (h1:A (p+6)=none) (h2:A (p+7)=none) :
  JH p (YcK t) A=some (Ye0 t (p+6) (p+7),upd (upd A (p+6) (some (36,t.net.map Y9,.live))) (p+7) (some (12,t.asks.map eRq,.live))):=by
 unfold YcK
 rw[YcB (Ycs _),YcB (Ycs _),YcB (Ycs _)]
 have e1:p+2+2+2=p+6:=by omega
 have e2:p+6+1=p+7:=by omega
 have u1:upd A (p+6) (some (36,t.net.map Y9,.live)) (p+7)=none:=by simp[upd,h2]
 simp only[Yld,e1,JcI,Jdy,Je2,h1,Jib,Option.bind_some,e2,u1,Option.map_some,Gj]
 rfl
theorem Yh2 {A:AA} {t:Th} {p:Nat}:Arr2 (upd (upd A (p+6) (some (36,t.net.map Y9,.live))) (p+7) (some (12,t.asks.map eRq,.live))) t (p+6) (p+7):=⟨by simp[upd],by simp[upd],by omega⟩
theorem Ykp {args:List V} {k:Nat} {t:Th}:startR args k (YcK t)=some ⟨fun i=>if i=k then .lref k 0 else (args[i]?).getD .undef,upd (fun _=>none) k (some (Ye0 t 9006 9007,false)),
  upd (upd (fun _=>none) 9006 (some (36,t.net.map Y9,.live))) 9007 (some (12,t.asks.map eRq,.live))⟩:=by
 unfold startR
 rw[Yht (p:=9000) rfl rfl]
 rfl
theorem Yjn {F:F} {S:St} {k:Nat} {t:Th} {a b:Nat} (h:HV S k t a b) {vs ws:List V} (h1:Jo (resV S) F.res=some vs) (h2:∀A,Jo (toD A) vs=some ws) :
  Jaz F k S=some (.tuple [Jbc ws,.tuple (YcK t)]):=by
 unfold Jaz
 rw[h1]
 simp only[Option.bind_some,h.1,YiN h.2,h2]
structure SV (S:St) (rest:List V) (t:Th):Prop where
 r0:S.ρ 0=.lref 0 0
 r:∀i,S.ρ (i+1)=(rest[i]?).getD .undef
 h:HV S 0 t 9006 9007
 m:∀i,(i == 0)=false→S.μ i=none
 a:∀x,x≠9006∧x≠9007→S.A x=none
def YmF (rs:List Res) (ws:List V) (t:Th) (S:St):Prop:=∃a b,HV S 0 t a b∧∃vs,Jo (resV S) rs=some vs∧∀A,Jo (toD A) vs=some ws
theorem YeA {f:Nat} {F:F} (rs:List Res) {rest ws:List V} {t t':Th} (hF:Pg f=some (.codeR F 0)) (hl:rest.length+1=F.np) (hrs:F.res=rs)
  (h:∀S,SV S rest t→Wp (K' Pg) F.body S fun ex S'=>(ex=.norm∨ex=.ret)∧YmF rs ws t' S') :
  K' Pg f (.tuple (.lref 0 0::YcK t)::rest)=some (.tuple [Jbc ws,.tuple (YcK t')]):=by
 have hm:∀i,(i == 0)=false→(upd (fun _=>none) 0 (some (Ye0 t 9006 9007,false)):Nat→Option (List V×Bool)) i=none:=fun i hi=>Je5 hi
 refine Qf hF (by simpa using hl) rfl Ykp ((h _ ⟨rfl,fun i=>rfl,⟨by simp[upd],Yh2 (p:=9000)⟩,hm,fun x hx=>?_⟩).mono fun ex S' hq=>⟨hq.1,?_⟩)
 ·simp only[upd]
  rw[Gn hx.2,Gn hx.1]
 ·obtain⟨a,b,h1,vs,h2,h3⟩:=hq.2
  exact Yjn h1 (by rw[hrs];exact h2) h3
theorem Qe {κ:Nat→List V→Option V} {dst:Option Nat} {gl:Bool} {ops:List Op} {i:Nat} {e:Nat→V} {Q:St→Prop} {S:St} {f v p:Nat} {rest:List V} {t t':Th} {a b:Nat} {r:V}
  (hκ:κ f (.tuple (.lref 0 0::YcK t)::rest)=some (.tuple [r,.tuple (YcK t')]))
  (hm:S.μ v=some (Ye0 t a b,false)) (hA:Arr2 S.A t a b) (n1:S.A (p+6)=none∨p+6=a∨p+6=b) (n2:S.A (p+7)=none∨p+7=a∨p+7=b) (hpa:a≠p+6∧a≠p+7∧b≠p+6∧b≠p+7)
  (hd:∀A,Jo (toD A) rest=some rest) (hs:rest.flatMap Jd=[])
  (hq:∀S',S'.ρ=S.ρ→(∀i,(i == v)=false→S'.μ i=S.μ i)→HV S' v t' (p+6) (p+7)→(∀x,x≠p+6∧x≠p+7∧x≠a∧x≠b→S'.A x=S.A x)→
   Wr κ ops (i+1) (upd e i r) (Jam gl dst S' r) Q) :
  WrO κ dst gl ops i e Q (Jau κ p S f 0 v (.lref v 0::rest)):=by
 have m1:S.A (p+6)=none:=by
  rcases n1 with h|h|h
  ·exact h
  ·exact absurd h.symm hpa.1
  ·exact absurd h.symm hpa.2.2.1
 have m2:S.A (p+7)=none:=by
  rcases n2 with h|h|h
  ·exact h
  ·exact absurd h.symm hpa.2.1
  ·exact absurd h.symm hpa.2.2.2
 have f1:(upd (upd S.A a (some (36,[],.dead))) b (some (12,[],.dead)):AA) (p+6)=none:=by simp only[upd];rw[Gn (Ne.symm hpa.2.2.1),Gn (Ne.symm hpa.1)];exact m1
 have f2:(upd (upd S.A a (some (36,[],.dead))) b (some (12,[],.dead)):AA) (p+7)=none:=by simp only[upd];rw[Gn (Ne.symm hpa.2.2.2),Gn (Ne.symm hpa.2.1)];exact m2
 have hA':rcallA S 0 v (.lref v 0::rest)=some (.tuple (.lref 0 0::YcK t)::rest,upd (upd S.A a (some (36,[],.dead))) b (some (12,[],.dead))):=by
  simp only[Jdi,JhD,Jgn,List.set_cons_zero,Jo,Jik,hd,Option.bind_some,hm,Jgp,Jcn,JeP,hs,List.nil_append,Jd9,YiN hA]
 have e1:Jau κ p S f 0 v (.lref v 0::rest)=some (r,⟨S.ρ,upd S.μ v (some (Ye0 t' (p+6) (p+7),false)),upd (upd (upd (upd S.A a (some (36,[],.dead))) b (some (12,[],.dead))) (p+6) (some (36,t'.net.map Y9,.live))) (p+7) (some (12,t'.asks.map eRq,.live))⟩):=by
  rw[Jiv,hA'];simp only[Option.bind_some,hκ,Jdj];rw[Yht f1 f2]
  rfl
 rw[e1]
 refine hq _ rfl (fun i hi=>by simp only[Je5 hi]) ⟨by simp[upd],Yh2⟩ fun x hx=>?_
 simp only[upd]
 rw[Gn hx.2.1,Gn hx.1,Gn hx.2.2.2,Gn hx.2.2.1]
section
variable {s:Nat→Sto} {v1 v2 w:V} {k i:Nat} {S:St}
theorem Yma:(YcW s v1 v2).length=8:=rfl
theorem Yii (hk:k<3):((YcW s v1 v2).drop (k*2)).take 2=YU (s k):=by
 rcases k3 hk with rfl|rfl|rfl<;>rfl
theorem Yms:(YcW s v1 v2)[6]?=some v1:=rfl
theorem Ymt:(YcW s v1 v2)[7]?=some v2:=rfl
theorem Yle {a:Int} {l:List Own} (hk:k<3):stV S i (k*2) [iz a,.slice 9 (l.map YbL)] (some (YcW s v1 v2,false))=some ⟨S.ρ,upd S.μ i (some (YcW (upd s k ⟨a,l⟩) v1 v2,false)),S.A⟩:=by
 rcases k3 hk with rfl|rfl|rfl<;>rfl
theorem Yl8:stV S i 6 [w] (some (YcW s v1 v2,false))=some ⟨S.ρ,upd S.μ i (some (YcW s w v2,false)),S.A⟩:=rfl
theorem Yl9:stV S i 7 [w] (some (YcW s v1 v2,false))=some ⟨S.ρ,upd S.μ i (some (YcW s v1 w,false)),S.A⟩:=rfl
attribute [go_sem] Yms Ymt Yma
attribute [go_sem high] Yle Yl8 Yl9
theorem Yhd {s k:Nat} (hk:k<3):JaZ 2 3 (.lref s 0) (iz (k:Int))=some (.lref s (k*2)):=by
 simp[JaZ];omega
end
theorem HV.set {ρ:Nat→V} {μ:Nat→Option (List V×Bool)} {A:AA} {v:Nat} {t:Th} {a b:Nat} {S:St} (h:HV S v t a b) (h1:μ v=S.μ v) (h2:A=S.A):HV ⟨ρ,μ,A⟩ v t a b:=⟨h1.trans h.1,h2▸h.2⟩
theorem YfC {x h:Nat}:∀r,swp x h (swp x h r)=r:=fun r=>by
 unfold swp;by_cases e1:r=x
 ·subst e1;simp only[Gz];split
  ·rename_i e;exact e
  ·rfl
 ·rw[Gn e1];by_cases e2:r=h
  ·subst e2;simp
  ·rw[Gn e2,Gn e1,Gn e2]
theorem Ykj {A:AA} {t:Th} {a b x h:Nat} (hA:Arr2 A t a b):Arr2 (fun i=>A (swp x h i)) t (swp x h a) (swp x h b):=
 ⟨by simp only[YfC];exact hA.ra,by simp only[YfC];exact hA.rb,fun e=>hA.rn (by rw[←YfC (x:=x) (h:=h) a,e,YfC])⟩
theorem HV.ren {S:St} {v x h:Nat} {t:Th} {a b:Nat} (hT:HV S v t a b):HV (S.ren x h) v t (swp x h a) (swp x h b):=by
 refine⟨?_,Ykj hT.2⟩
 show (S.μ v).map _=_
 rw[hT.1];rfl
theorem HV.head {S:St} {v:Nat} {t:Th} {a b h1 h2:Nat} {Wv Wa:List Nat} (hT:HV S v t a b) (hh:h1≠h2) (hv:Wv.contains v=false) (hw:Wa.contains h1=false∧Wa.contains h2=false) :
  HV (S.head [] [v,6,h1,v,7,h2] Wv Wa) v t h1 h2∧(∀x,Wa.contains x=true→(S.head [] [v,6,h1,v,7,h2] Wv Wa).A x=none)∧(∀x,x∉[a,b,h1,h2]→S.A x=none→(S.head [] [v,6,h1,v,7,h2] Wv Wa).A x=none):=by
 have s1:=hT.ren (x:=a) (h:=h1)
 rw[Jh8] at s1
 have e1:S.swp1 v 6 h1=S.ren a h1:=by rw[JgQ,hT.1,Jh6];rfl
 have tb1:swp a h1 b∈[a,b,h1,h2]:=Ygk (by simp) (by simp) (by simp)
 generalize swp a h1 b=b1 at *
 have n1:=s1.2.rn
 have s2:=s1.ren (x:=b1) (h:=h2)
 rw[Jh8,Ya9 n1 hh] at s2
 have e2:(S.ren a h1).swp1 v 7 h2=(S.ren a h1).ren b1 h2:=by rw[JgQ,s1.1,Jh6];rfl
 have eh:S.head [] [v,6,h1,v,7,h2] Wv Wa=((S.ren a h1).ren b1 h2).scrub [] Wv Wa:=by
  rw[Jir,e1,Jir,e2];rfl
 rw[eh]
 refine⟨⟨?_,?_⟩,fun x hx=>?_,fun x hx h0=>?_⟩
 ·show (if Wv.contains v then none else _)=_
  rw[hv,s2.1]
  simp only[Gm,Gu,Option.map_some]
  have:(Ye0 t h1 h2).map (Jv Wa)=Ye0 t h1 h2:=by
   unfold Ye0 YcW;simp only[GF,JbW (Ycs _),GC,Gk,Jv,hw.1,hw.2]
   rfl
  rw[this]
  cases Wa.isEmpty<;>rfl
 ·have keep:∀x,Wa.contains x=false→(((S.ren a h1).ren b1 h2).scrub [] Wv Wa).A x=((S.ren a h1).ren b1 h2).A x:=fun x hx=>by
   show (if Wa.contains x then none else _)=_
   rw[hx];rfl
  exact⟨by rw[keep _ hw.1];exact s2.2.ra,by rw[keep _ hw.2];exact s2.2.rb,hh⟩
 ·show (if Wa.contains x then none else _)=_
  rw[hx];rfl
 ·show (if Wa.contains x then none else _)=_
  split
  ·rfl
  ·show S.A (swp a h1 (swp b1 h2 x))=none
   have ne:∀{y},y∈[a,b,h1,h2]→x≠y:=fun hy e=>hx (e▸hy)
   rw[Ya9 (ne tb1) (ne (by simp)),Ya9 (ne (by simp)) (ne (by simp))]
   exact h0
theorem HV.headn {S:St} {v:Nat} {t:Th} {a b:Nat} {Wv:List Nat} (h:HV S v t a b) (hv:Wv.contains v=false):HV (S.head [] [] Wv []) v t a b:=by
 refine⟨?_,?_⟩
 ·show (if Wv.contains v then none else _)=_
  rw[hv]
  show (S.μ v).map _=_
  rw[h.1];rfl
 ·have e:(S.head [] [] Wv []).A=S.A:=by
   funext x
   show (if ([]:List Nat).contains x then none else S.A x)=S.A x
   simp
  rw[e];exact h.2
theorem YlJ {l:List Rq} {i:Nat} {x:Rq} {r:Int} (h:l[i]?=some x):Ycv (l.take (i+1)) r=if x.client=1∧x.req=r then x else Ycv (l.take i) r:=by
 rw[Y4 h,YeN]
theorem ask482 {t:Th} {m:Msg} {q:Rq} (hq:q.client=1) (hl:t.asks.length≤1000) {S:St} {Q:Ex→St→Prop} (s0:S.ρ 0=.lref 0 0) (s3:S.ρ 3=.lref 3 0) (s5:S.ρ 5=.lref 5 0) (s17:S.ρ 17=.own 9007 12 t.asks.length) (s18:S.ρ 18=iz t.asks.length) (s19:S.ρ 19=iz 0)
  (hT:HV S 0 t 9006 9007) (m3:S.μ 3=some (Y9 {m with req:=q},false)) (m5:S.μ 5=some (eRq Ycj,false)) (n8:S.μ 8=none) (n11:S.μ 11=none) (n12:S.μ 12=none)
  (hk:∀S',S'.ρ 0=.lref 0 0→S'.ρ 3=.lref 3 0→S'.ρ 5=.lref 5 0→HV S' 0 t 9006 9007→S'.μ 3=some (Y9 {m with req:=q},false)→S'.μ 5=some (eRq (Ycv t.asks q.req),false)→S'.μ 8=none→S'.μ 11=none→S'.μ 12=none→Q .norm S') :
  Wp (K' Pg) l482_0 S (Blk 0 Q):=by
 unfold l482_0
 refine JiJ (fun (i:Nat) S=>i≤t.asks.length∧S.ρ 0=.lref 0 0∧S.ρ 3=.lref 3 0∧S.ρ 5=.lref 5 0∧S.ρ 17=.own 9007 12 t.asks.length∧S.ρ 18=iz t.asks.length∧S.ρ 19=iz i∧HV S 0 t 9006 9007∧S.μ 3=some (Y9 {m with req:=q},false)∧S.μ 5=some (eRq (Ycv (t.asks.take i) q.req),false)∧S.μ 7=none∧S.μ 8=none∧S.μ 11=none∧S.μ 12=none) (fun i=>t.asks.length-i) 0 ?_ ?_
 ·exact⟨GE _,Jiu s0 rfl,Jiu s3 rfl,Jiu s5 rfl,by simp only[go_sem,s17],Jiu s18 rfl,Jiu s19 rfl,hT.headn rfl,Jit m3 rfl rfl,Jit m5 rfl rfl,Jis (.inr rfl),Jis (.inl n8),Jis (.inl n11),Jis (.inl n12)⟩
 ·intro i S ⟨hi,s0,s3,s5,s17,s18,s19,hT,m3,m5,n7,n8,n11,n12⟩
  have m3':=m3
  have m5':=m5
  have hA:=hT.2.rb
  simp only[go_sem] at m3' m5'
  cases c1:decide ((i:Int)<(t.asks.length:Int)) with
  |false=>
   have hil:i=t.asks.length:=by have:=Gb c1;omega
   rw[hil,GM] at m5
   simp only[go_sem,s18,s19,c1]
   exact hk _ (by simp only[go_sem,s0]) (by simp only[go_sem,s3]) (by simp only[go_sem,s5]) (hT.set rfl rfl) m3 m5 n8 n11 n12
  |true=>
   have hlt:=Yj c1
   obtain⟨x,hx,-⟩:=Jiq hlt
   have hinc:=inc64q (i:=i) (by omega)
   have hls:=YlJ (r:=q.req) hx
   have cont:∀{ρ:Nat→V} {μ:Nat→Option (List V×Bool)},μ 0=S.μ 0→HV ⟨ρ,μ,S.A⟩ 0 t 9006 9007:=fun h=>hT.set h rfl
   cases c2:decide (x.client=q.client) with
   |false=>
    have hn:Ycv (t.asks.take (i+1)) q.req=Ycv (t.asks.take i) q.req:=by rw[hls,Gn fun e=>Gb c2 (by rw[e.1,hq])]
    simp only[go_sem,s0,s3,s5,s17,s18,s19,m3',m5',n7,hA,c1,hx,hlt,c2,hinc,Gj]
    exact⟨i+1,by omega,by omega,rfl,(cont (by simp only[go_sem])).headn rfl,by rw[hn],by rw[n8];rfl,by rw[n11];rfl,by rw[n12];rfl⟩
   |true=>
   cases c3:decide (x.req=q.req) with
   |false=>
    have hn:Ycv (t.asks.take (i+1)) q.req=Ycv (t.asks.take i) q.req:=by rw[hls,Gn fun e=>Gb c3 e.2]
    simp only[go_sem,s0,s3,s5,s17,s18,s19,m3',m5',n7,hA,c1,hx,hlt,c2,c3,hinc,Gj]
    exact⟨i+1,by omega,by omega,rfl,(cont (by simp only[go_sem])).headn rfl,by rw[hn],by rw[n8];rfl,by rw[n11];rfl,by rw[n12];rfl⟩
   |true=>
    have hn:Ycv (t.asks.take (i+1)) q.req=x:=by rw[hls,Gr ⟨by rw[Gg c2,hq],Gg c3⟩]
    simp only[go_sem,s0,s3,s5,s17,s18,s19,m3',m5',n7,hA,c1,hx,hlt,c2,c3,hinc,Gj]
    exact⟨i+1,by omega,by omega,rfl,(cont (by simp only[go_sem])).headn rfl,by rw[hn],by rw[n8];rfl,by rw[n11];rfl,by rw[n12];rfl⟩
theorem YhI {c:Int} {o:Own} {l:List Own} (h:o.cell=c):Ybe (YcE c) (o::l) 0=0:=by simp[Ybe,YcE,h]
def H482 (Pg:PgT):Prop:=Pg 482=some (.codeR F482 0)∧H99 Pg∧H398 Pg∧H409 Pg∧H411 Pg
theorem K482 (h:H482 Pg) {g:Gw} {i:Nat} {net0:List Msg} {asks:List Rq} (hw:OkW g i net0 asks) (hb:g.busy=false) (net:List Msg) (q:Rq) (a:Ans) (hq:q.client=1) (hh:HasQ g.t asks q.req) (hl:asks.length≤1000) :
  K' Pg 482 [.tuple (.lref 0 0::YcK ⟨stW g,net,asks⟩),.agg (Y9 (doneM 1 (Ya3 1 q) a))]=some (.tuple [.bool true,.tuple (YcK ⟨stW g,net,asks⟩)]):=by
 obtain⟨h,h99,h398,h409,h411⟩:=h
 obtain⟨i1,i2,i3,i4⟩:=hw.idle hb
 refine YeA [.t 4] (ws:=[.bool true]) h rfl rfl fun S0 ⟨r0,r,hT0,mm,aa⟩=>?_
 have r1:=r 0
 simp only[JhD,Option.getD_some] at r1
 have n3:=mm 3 rfl
 have n5:=mm 5 rfl
 have n7:=mm 7 rfl
 have n8:=mm 8 rfl
 have n11:=mm 11 rfl
 have n12:=mm 12 rfl
 have hm:=hT0.1
 have k398a:=K398 h398 (stW g 0) (by simp[stW])
 have k398b:=K398 h398 (stW g 1) (by simp[stW])
 have k409a:=K409 h409 (stW g 0) 1 (by simp[stW])
 have k409b:=K409 h409 (stW g 1) 1 (by simp[stW])
 have ea:Ybe (YcE 1) (stW g 0).owns 0=0:=YhI rfl
 have eb:Ybe (YcE 1) (stW g 1).owns 0=0:=YhI rfl
 rw[ea] at k409a
 rw[eb] at k409b
 have k411:=K411r h411 g.t hw.ht
 obtain⟨s,hs⟩:=hw.ot
 have hsr:=((Yt.1 hw.ht).2.2.2.2 s (by rw[hs];exact GR ..)).2.1
 have k99:=K99 h99 s.done 1 (by have:=((Yal hw.ht).2 s (by rw[hs];exact GR ..)).2.1;omega)
 have hd:doneM 1 (Ya3 1 q) a={doneM 1 (Ya3 1 q) a with req:={Ycj with client:=q.client,req:=q.req}}:=rfl
 rw[hd] at r1
 simp only[go_sem] at r1 hm
 simp only[F482,c482,go_sem,r0,r1,n3,n5,hm]
 refine ask482 (t:=⟨stW g,net,asks⟩) (m:=doneM 1 (Ya3 1 q) a) (q:={Ycj with client:=q.client,req:=q.req}) hq hl (by simp only[go_sem,r0]) (by simp only[go_sem]) (by simp only[go_sem]) (by simp only[go_sem]) (by simp only[go_sem]) (by simp only[go_sem])
  (hT0.set (by simp only[go_sem]) rfl) (by simp only[go_sem]) (by simp only[go_sem,Ycj,YbY]) (by simp only[go_sem,n8]) (by simp only[go_sem,n11]) (by simp only[go_sem,n12]) fun S1 s0 s3 s5 hT m3 m5 n8 n11 n12=>?_
 clear hm r1 r n3 n5 mm aa r0 hT0 n7
 simp only at m5
 have m5':=m5
 have m3':=m3
 simp only[go_sem] at m5' m3'
 cases c1:decide (3<(Ycv asks q.req).kind) with
 |true=>
  simp only[go_sem,s5,m5',c1]
  exact⟨9006,9007,hT.set (by simp only[go_sem]) rfl,[.bool true],by simp only[go_sem],fun A=>by simp only[go_sem]⟩
 |false=>
  obtain⟨⟨lc,lr⟩,hh⟩:=hh
  obtain⟨s2,hs2,hreq⟩:=hh (by have:=Gb c1;omega)
  rw[hs] at hs2
  have:s=s2:=by simpa using hs2
  subst this
  rw[hreq] at k99
  have hmv:=hT.1
  have hfrom:(doneM 1 (Ya3 1 q) a).from_=1:=rfl
  have hw0:IntKind.i64.wrap ((1:Int)-1)=0:=rfl
  have hia:JaZ 2 3 (.lref 0 0) (.int .i64 0)=some (.lref 0 0):=rfl
  have hl1:∀v1 v2,(YcW (stW g) v1 v2)[1]?=some (YhB (stW g 0).owns):=fun _ _=>rfl
  have hl2:∀v1 v2,((YcW (stW g) v1 v2).drop 0).take 2=YU (stW g 0):=fun _ _=>rfl
  have hi0:JaG 9 (.slice 9 (List.map YbL (stW g 0).owns)) (.int .i64 0)=some (.cptr (YbL ⟨1,ldR g,g.outs⟩) 0):=rfl
  have hi17:∀r,JaG 17 (.slice 17 [r]) (.int .i64 0)=some (.cptr r 0):=fun _=>rfl
  have hmem:(ldR g).members=[1,2]:=rfl
  simp only[go_sem,GaH] at hmv hl1 hl2 hi0 k398a k409a k411 k99
  simp only[go_sem,s0,s3,s5,m3',m5',n8,c1,hmv,hfrom,hw0,hia,hl1,hl2,k398a,k409a,hi0,hmem,GC,Gk]
  unfold l482_1
  refine JiJ (fun (i:Nat) S=>i≤2∧S.ρ 0=.lref 0 0∧S.ρ 5=.lref 5 0∧S.ρ 65=.slice 1 [[iz 1],[iz 2]]∧S.ρ 66=iz 2∧S.ρ 67=iz i∧HV S 0 ⟨stW g,net,asks⟩ 9006 9007∧S.μ 5=some (eRq (Ycv asks q.req),false)∧S.μ 11=none∧S.μ 12=none) (fun i=>2-i) 0 ?_ ?_
  ·exact⟨GE _,Jiu (by simp only[go_sem,s0]) rfl,Jiu (by simp only[go_sem,s5]) rfl,Jiu (by simp only[go_sem]) rfl,Jiu (by simp only[go_sem]) rfl,Jiu (by simp only[go_sem]) rfl,(hT.set (by simp only[go_sem,hmv]) rfl).headn rfl,Jit (by simp only[go_sem,m5']) rfl rfl,Jis (.inl (by simp only[go_sem,n11])),Jis (.inl (by simp only[go_sem,n12]))⟩
  ·clear hT hmv s0 s3 s5 m3 m3' m5 m5' n8 n11 n12
   intro i S ⟨hi,s0,s5,s65,s66,s67,hT,m5,n11,n12⟩
   have m5':=m5
   have hmv:=hT.1
   simp only[go_sem] at m5' hmv
   cases c2:decide ((i:Int)<2) with
   |false=>
    simp only[go_sem,s66,s67,c2]
    exact⟨9006,9007,hT.set (by simp only[go_sem]) rfl,[.bool true],by simp only[go_sem],fun A=>by simp only[go_sem]⟩
   |true=>
    have hi2:i<2:=by have:=Gg c2;omega
    have hi3:i<3:=by omega
    have hinc:=inc64q (i:=i) (by omega)
    have hdec:IntKind.i64.wrap ((i:Int)+1-1)=(i:Int):=by rw[JiG (by omega) (by omega)];omega
    have hx:([[iz 1],[iz 2]]:List (List V))[i]?=some [iz ((i:Int)+1)]:=by
     have:i=0∨i=1:=by omega
     rcases this with rfl|rfl<;>rfl
    have hk3:=Yhd (s:=0) hi3
    have hle:i*2+2≤8:=by omega
    have hls:=fun v1 v2=>Yii (s:=stW g) (v1:=v1) (v2:=v2) hi3
    have h01:i=0∨i=1:=by omega
    have k398:=K398 h398 (stW g i) (by rcases h01 with rfl|rfl<;>simp[stW])
    have k409:K' Pg 409 [.agg (YU (stW g i)),iz 1]=some (iz 0):=by
     have:i=0∨i=1:=by omega
     rcases this with rfl|rfl
     ·simp only[go_sem];exact k409a
     ·exact k409b
    obtain⟨o,ho,hot⟩:∃o:Own,JaG 9 (.slice 9 (List.map YbL (stW g i).owns)) (.int .i64 0)=some (.cptr (YbL o) 0)∧o.rep.text=cB g.t:=by
     have:i=0∨i=1:=by omega
     rcases this with rfl|rfl
     ·exact⟨_,rfl,rfl⟩
     ·exact⟨_,rfl,by show cB g.f=cB g.t;rw[i3]⟩
    simp only[go_sem] at hk3 hls k398 k409 ho
    have hlt:decide (q.req<q.req)=false:=Gp (by omega)
    simp only[go_sem,s0,s5,s65,s66,s67,m5',hmv,n11,n12,c2,hx,hdec,hk3,hle,hls,k398,k409,ho,hot,k411,hs,hi17,lc,lr,k99,hlt,hinc,GC,Gk]
    exact⟨i+1,by omega,by omega,rfl,(hT.set (by simp only[go_sem]) rfl).headn rfl⟩
def YcP (net l:List Msg):List Msg:=l.foldl (fun n x=>if 1≤x.to∧x.to≤3∧n.length<200 then n++[x] else n) net
theorem YlW {net l:List Msg} {x:Msg}:YcP net (l++[x])=if 1≤x.to∧x.to≤3∧(YcP net l).length<200 then YcP net l++[x] else YcP net l:=by
 simp only[YcP,List.foldl_append,List.foldl_cons,List.foldl_nil]
 rfl
theorem Yds:∀{l net:List Msg},net.length≤200→(YcP net l).length≤200
 |[],_,h=>h
 |x::l,net,h=>by
  show (YcP (if 1≤x.to∧x.to≤3∧net.length<200 then net++[x] else net) l).length≤200
  refine Yds ?_;split
  ·rename_i hc;rw[Ge,List.length_singleton];omega
  ·exact h
theorem YhT {x:Msg}:∀{l net:List Msg},x∈YcP net l→x∈net∨x∈l∧x.to≤3
 |[],_,h=>.inl h
 |y::l,net,h=>by
  rcases YhT (l:=l) (net:=if 1≤y.to∧y.to≤3∧net.length<200 then net++[y] else net) h with h|h
  ·split at h
   ·rename_i hc;rcases GT.1 h with h|h
    ·exact .inl h
    ·have:x=y:=by simpa using h
     subst this;exact .inr ⟨GR ..,hc.2.1⟩
   ·exact .inl h
  ·exact .inr ⟨G5 _ h.1,h.2⟩
theorem Arr2.net {A:AA} {t:Th} {a b:Nat} (h:Arr2 A t a b) (l:List Msg):Arr2 (upd A a (some (36,l.map Y9,.live))) {t with net:=l} a b:=⟨by simp[upd],by simp[upd,Ne.symm h.rn,h.rb],h.rn⟩
theorem Arr2.ask {A:AA} {t:Th} {a b:Nat} (h:Arr2 A t a b) (l:List Rq):Arr2 (upd A b (some (12,l.map eRq,.live))) {t with asks:=l} a b:=⟨by simp[upd,h.rn,h.ra],by simp[upd],h.rn⟩
theorem Yj8 {g:Gw} {x:Msg} (h:Yh0 g x):(x.kind=35∧x.to=2)∨(x.kind=36∧x.to=1):=by
 rcases h with ⟨k,c,rfl,-⟩|⟨k,rfl,-⟩
 ·exact .inl ⟨rfl,rfl⟩
 ·exact .inr ⟨rfl,rfl⟩
def H454 (Pg:PgT):Prop:=Pg 454=some (.codeR F454 0)∧H482 Pg
theorem K454 (h:H454 Pg) {g:Gw} {i:Nat} {net0:List Msg} {asks:List Rq} (hw:OkW g i net0 asks) (net l:List Msg) (hl:l.length≤10000) (hn:net.length≤200) (hs:∀x∈l,SayOk g asks x) (hal:asks.length≤1000) :
  K' Pg 454 [.tuple (.lref 0 0::YcK ⟨stW g,net,asks⟩),Ybo l]=some (.tuple [.bool true,.tuple (YcK ⟨stW g,YcP net l,asks⟩)]):=by
 obtain⟨h,h482⟩:=h
 refine YeA [.t 4] (ws:=[.bool true]) h rfl rfl fun S0 ⟨r0,r,hT0,mm,aa⟩=>?_
 have r1:=r 0
 simp only[JhD,Option.getD_some] at r1
 have n6:=mm 6 rfl
 have a1:=aa 20006 (by omega)
 have a2:=aa 20007 (by omega)
 simp only[go_sem] at r1
 simp only[F454,c454,r454_0,r454_1,r454_9,go_sem,r1,Gj]
 unfold l454_0
 refine JiJ (fun (i:Nat) S=>i≤l.length∧S.ρ 0=.lref 0 0∧S.ρ 7=Ybo l∧S.ρ 8=iz l.length∧S.ρ 9=iz i∧HV S 0 ⟨stW g,YcP net (l.take i),asks⟩ 9006 9007∧S.μ 6=none∧S.A 20006=none∧S.A 20007=none) (fun i=>l.length-i) 0 ?_ ?_
 ·obtain⟨q1,q2,q3⟩:=HV.head (h1:=9006) (h2:=9007) (Wv:=[6]) (Wa:=[20006,20007]) (HV.set (ρ:=upd (upd (upd (upd S0.ρ 4 (.bool false)) 7 (.slice 36 (List.map Y9 l))) 8 (iz l.length)) 9 (.int .i64 0)) (μ:=S0.μ) (A:=S0.A) hT0 rfl rfl) (by decide) rfl ⟨rfl,rfl⟩
  exact⟨GE _,Jiu (by simp only[go_sem,r0]) rfl,Jiu (by simp only[go_sem]) rfl,Jiu (by simp only[go_sem]) rfl,Jiu (by simp only[go_sem]) rfl,q1,Jis (.inr rfl),q2 _ rfl,q2 _ rfl⟩
 ·intro i S ⟨hi,s0,s7,s8,s9,hT,n6,a1,a2⟩
  have hm:=hT.1
  have hA:=hT.2.ra
  simp only[go_sem] at hm
  cases c1:decide ((i:Int)<(l.length:Int)) with
  |false=>
   have hil:i=l.length:=by have:=Gb c1;omega
   rw[hil,GM] at hT
   simp only[go_sem,s8,s9,c1]
   exact⟨9006,9007,hT.set (by simp only[go_sem]) rfl,[.bool true],by simp only[go_sem],fun A=>by simp only[go_sem]⟩
  |true=>
   have hlt:=Yj c1
   obtain⟨x,hx,-⟩:=Jiq hlt
   have hinc:=inc64q (i:=i) (by omega)
   have hlen:=Yds (l:=l.take i) hn
   have hnx:YcP net (l.take (i+1))=if 1≤x.to∧x.to≤3∧(YcP net (l.take i)).length<200 then YcP net (l.take i)++[x] else YcP net (l.take i):=by rw[Y4 hx,YlW]
   generalize YcP net (l.take i)=nw at *
   -- the next turn's head
   have fin:∀{ρ:Nat→V} {μ:Nat→Option (List V×Bool)} {A:AA} {a b:Nat},HV ⟨ρ,μ,A⟩ 0 ⟨stW g,YcP net (l.take (i+1)),asks⟩ a b→ρ 0=.lref 0 0→ρ 7=Ybo l→ρ 8=iz l.length→ρ 9=iz ((i+1:Nat):Int)→
     ∃j,l.length-j<l.length-i∧j≤l.length∧((⟨ρ,μ,A⟩:St).head [] [0,6,9006,0,7,9007] [6] [20006,20007]).ρ 0=.lref 0 0∧((⟨ρ,μ,A⟩:St).head [] [0,6,9006,0,7,9007] [6] [20006,20007]).ρ 7=Ybo l∧((⟨ρ,μ,A⟩:St).head [] [0,6,9006,0,7,9007] [6] [20006,20007]).ρ 8=iz l.length∧((⟨ρ,μ,A⟩:St).head [] [0,6,9006,0,7,9007] [6] [20006,20007]).ρ 9=iz j∧
      HV ((⟨ρ,μ,A⟩:St).head [] [0,6,9006,0,7,9007] [6] [20006,20007]) 0 ⟨stW g,YcP net (l.take j),asks⟩ 9006 9007∧((⟨ρ,μ,A⟩:St).head [] [0,6,9006,0,7,9007] [6] [20006,20007]).μ 6=none∧((⟨ρ,μ,A⟩:St).head [] [0,6,9006,0,7,9007] [6] [20006,20007]).A 20006=none∧((⟨ρ,μ,A⟩:St).head [] [0,6,9006,0,7,9007] [6] [20006,20007]).A 20007=none:=fun hv e0 e7 e8 e9=>by
    obtain⟨q1,q2,q3⟩:=HV.head (h1:=9006) (h2:=9007) (Wv:=[6]) (Wa:=[20006,20007]) hv (by decide) rfl ⟨rfl,rfl⟩
    exact⟨i+1,by omega,by omega,Jiu e0 rfl,Jiu e7 rfl,Jiu e8 rfl,Jiu e9 rfl,q1,Jis (.inr rfl),q2 _ rfl,q2 _ rfl⟩
   rcases hs x (List.mem_of_getElem? hx) with hnet|⟨hk,hto,hd⟩
   ·have hkt:=Yj8 hnet
    have d1:decide ((1:Int)≤x.to)=true:=GD (by omega)
    have d2:decide (x.to≤3)=true:=GD (by omega)
    have e1:decide (x.kind=2)=false:=Gp (by omega)
    cases d3:decide ((nw.length:Int)<200) with
    |false=>
     rw[Gn (by have:=Gb d3;omega)] at hnx
     simp only[go_sem,s0,s7,s8,s9,n6,hm,c1,hx,d1,d2,d3,e1,hinc]
     exact fin (by rw[hnx];exact hT.set (by simp only[go_sem]) rfl) (by simp only[go_sem,s0]) (by simp only[go_sem,s7]) (by simp only[go_sem,s8]) (by simp only[go_sem])
    |true=>
     rw[Gr (by have:=Gg d3;omega)] at hnx
     have hlim:nw.length+1≤lim:=by unfold lim;omega
     simp only[go_sem,s0,s7,s8,s9,n6,hm,hA,c1,hx,d1,d2,d3,e1,hinc,hlim,Gj]
     refine fin (a:=9006) (b:=9007) (by
      rw[hnx];have:=hT.2.net (nw++[x]);rw[GF] at this;exact⟨by simp only[go_sem,Ge],this⟩) (by simp only[go_sem,s0]) (by simp only[go_sem,s7]) (by simp only[go_sem,s8]) (by simp only[go_sem])
   ·have d1:decide ((1:Int)≤x.to)=true:=GD (by omega)
    have d2:decide (x.to≤3)=false:=Gp (by omega)
    have e1:decide (x.kind=2)=true:=GD hk
    rw[Gn (by omega)] at hnx
    rcases hd with ⟨f1,f2⟩|⟨hb,q,a,hxe,hq,hh⟩
    ·have g1:decide (x.ans.err=0)=false:=Gp f1
     have g2:decide (x.ans.err=15)=false:=Gp f2
     simp only[go_sem,s7,s8,s9,n6,c1,hx,d1,d2,e1,g1,g2,hinc]
     exact fin (by rw[hnx];exact hT.set (by simp only[go_sem]) rfl) (by simp only[go_sem,s0]) (by simp only[go_sem,s7]) (by simp only[go_sem,s8]) (by simp only[go_sem])
    ·have k482:=K482 h482 hw hb nw q a hq hh hal
     rw[←hxe] at k482
     simp only[go_sem] at k482
     cases g1:decide (x.ans.err=0) with
     |true=>
      simp only[go_sem,s0,s7,s8,s9,n6,c1,hx,d1,d2,e1,g1]
      refine Qe (a:=9006) (b:=9007) k482 (by simp only[go_sem,hm]) hT.2 (.inl a1) (.inl a2) (by decide) (fun A=>by simp only[Jo,Jic,JgU,JgX,JgY,JgT,go_sem]) rfl fun S1 b1 b2 b3 b4=>?_
      have hm1:=b3.1
      simp only[go_sem,b1,s9,hinc]
      exact fin (by rw[hnx];exact b3.set (by simp only[go_sem]) rfl) (by simp only[go_sem,s0]) (by simp only[go_sem,s7]) (by simp only[go_sem,s8]) (by simp only[go_sem])
     |false=>
     cases g2:decide (x.ans.err=15) with
     |true=>
      simp only[go_sem,s0,s7,s8,s9,n6,c1,hx,d1,d2,e1,g1,g2]
      refine Qe (a:=9006) (b:=9007) k482 (by simp only[go_sem,hm]) hT.2 (.inl a1) (.inl a2) (by decide) (fun A=>by simp only[Jo,Jic,JgU,JgX,JgY,JgT,go_sem]) rfl fun S1 b1 b2 b3 b4=>?_
      have hm1:=b3.1
      simp only[go_sem,b1,s9,hinc]
      exact fin (by rw[hnx];exact b3.set (by simp only[go_sem]) rfl) (by simp only[go_sem,s0]) (by simp only[go_sem,s7]) (by simp only[go_sem,s8]) (by simp only[go_sem])
     |false=>
      simp only[go_sem,s7,s8,s9,n6,c1,hx,d1,d2,e1,g1,g2,hinc]
      exact fin (by rw[hnx];exact hT.set (by simp only[go_sem]) rfl) (by simp only[go_sem,s0]) (by simp only[go_sem,s7]) (by simp only[go_sem,s8]) (by simp only[go_sem])
theorem K428r (h:H428 Pg) {c:Cel} (hc:Yy c=true):K' Pg 428 [.str (cB c)]=some (YeG (tkC (cB c))):=
 K428g h (cB c) (by have:=Ydx hc;omega) fun c' hc' e=>by
  have h1:=(cC (D:=false)).put (r:=[]) (Yg1 hc);have h2:=(cC (D:=false)).put (r:=[]) hc';rw[Gv] at h1 h2;rw[e,h1] at h2;have:c=c':=by simpa using h2
  subst this;exact Yal hc
theorem K430r (h:H430 Pg) {c:Cel} (hc:Yy c=true):K' Pg 430 [.str (cB c)]=some (.bool (Yab (cB c))):=by
 obtain⟨h,h428⟩:=h;have k:=K428r h428 hc;refine Qb h rfl ?_;unfold Yab;rw[YcQ.2 ⟨rfl,hc⟩] at k ⊢;simp only[YeG] at k;simp only[go_sem] at k;simp only[F430,c430,go_sem,k,Option.isSome_some]
section
variable {g:Gw} {i:Nat} {net:List Msg} {asks:List Rq}
theorem Yel (h:OkW g i net asks) (k:Nat):∀o∈(stW g k).owns,(∃c,Yy c=true∧o.rep.base=cB c)∧∃c,Yy c=true∧o.rep.text=cB c:=by
 intro o ho;have h0:∃c,Yy c=true∧Ydc=cB c:=⟨⟨[],⟨0,0,0⟩,0⟩,by decide,by decide +kernel⟩
 match k with
 |0=>
  have:o=⟨1,ldR g,g.outs⟩∨o=oC3:=by simpa [stW] using ho
  rcases this with rfl|rfl
  ·exact⟨⟨g.b,h.hb,rfl⟩,g.t,h.ht,rfl⟩
  ·exact⟨h0,h0⟩
 |1=>
  have:o=⟨1,flR g,[]⟩∨o=oC2:=by simpa [stW] using ho
  rcases this with rfl|rfl
  ·exact⟨⟨g.f,h.hf,rfl⟩,g.f,h.hf,rfl⟩
  ·exact⟨h0,h0⟩
 |k+2=>
  have:o=⟨2,⟨3,1,[2,3],1,Ydc,Ydc,[]⟩,[]⟩∨o=⟨3,⟨3,1,[3,1],1,Ydc,Ydc,[3,1]⟩,[]⟩:=by simpa [stW,newS] using ho
  rcases this with rfl|rfl
  ·exact⟨h0,h0⟩
  ·exact⟨h0,h0⟩
theorem Yek (h:OkW g i net asks) (k:Nat):∀o∈(stW g k).owns,o.rep.members.length≤2∧o.rep.acks.length≤2∧o.outs.length≤1∧∀m∈o.outs,SmM m:=by
 intro o ho
 match k with
 |0=>
  have:o=⟨1,ldR g,g.outs⟩∨o=oC3:=by simpa [stW] using ho
  rcases this with rfl|rfl
  ·refine⟨by simp[ldR],by simp only[ldR];split<;>simp,?_⟩;cases hb:g.busy with
   |false=>
    simp only[(h.idle hb).2.2.2];exact⟨by simp,fun m hm=>by cases hm⟩
   |true=>
    obtain⟨-,q,a,b2,b3⟩:=h.bus hb;simp only[b2];refine⟨by simp,fun m hm=>?_⟩;have:m=doneM 1 (Ya3 1 q) a:=by simpa using hm
    subst this;exact⟨by have:=b3.it;show a.items.length≤10000;omega,GE _,GE _⟩
  ·exact⟨by decide,by decide,by decide,fun m hm=>by cases hm⟩
 |1=>
  have:o=⟨1,flR g,[]⟩∨o=oC2:=by simpa [stW] using ho
  rcases this with rfl|rfl
  ·exact⟨by simp[flR],by simp[flR],by simp,fun m hm=>by cases hm⟩
  ·exact⟨by decide,by decide,by decide,fun m hm=>by cases hm⟩
 |k+2=>
  have:o=⟨2,⟨3,1,[2,3],1,Ydc,Ydc,[]⟩,[]⟩∨o=⟨3,⟨3,1,[3,1],1,Ydc,Ydc,[3,1]⟩,[]⟩:=by simpa [stW,newS] using ho
  rcases this with rfl|rfl
  ·exact⟨by simp,by simp,by simp,fun m hm=>by cases hm⟩
  ·exact⟨by simp,by simp,by simp,fun m hm=>by cases hm⟩
theorem Yfd (h:OkW g i net asks) (k:Nat):Ybd (stW g k):=by
 refine⟨?_,fun o ho=>?_⟩
 ·match k with
  |0=>simp[stW]
  |1=>simp[stW]
  |k+2=>simp[stW,newS]
 ·obtain⟨h1,h2,h3,h4⟩:=Yek h k o ho;exact⟨⟨by omega,by omega⟩,by omega,h4⟩
theorem Ydu (h:OkW g i net asks) (k:Nat) (c:Int):(Yw (stW g k) c).rep.acks.length≤9000∧(Yw (stW g k) c).outs.length≤9000:=by
 cases q:(atO (stW g k) c).isSome with
 |true=>
  obtain⟨h1,h2,h3,h4⟩:=Yek h k _ (Ydm q).1;exact⟨by omega,by omega⟩
 |false=>
  unfold Yw;cases e:atO (stW g k) c with
  |some o=>rw[e] at q;cases q
  |none=>exact⟨by simp[YhY],by simp[YhY]⟩
theorem YeV (h408:H408 Pg) (h:OkW g i net asks) (k:Nat):K' Pg 408 [.agg (YU (stW g k))]=some (.bool (Ybw (stW g k))):=
 K408g h408 _ (Yfd h k) fun o ho=>by
  obtain⟨⟨c,h1,h2⟩,d,h3,h4⟩:=Yel h k o ho;rw[h2,h4];exact⟨K430r h408.2.2.2.1 h1,K430r h408.2.2.2.1 h3⟩
theorem k413_ask (h:H413 Pg) (h408:H408 Pg) (hw:OkW g i net asks) (k:Nat) (wall:Int) (t:Int) (q:Rq):K' Pg 413 [.agg (YU (stW g k)),iz wall,.agg (Y9 (Ya3 t q))]=some (eSM (YcF (stW g k) wall (Ya3 t q))):=
 K413g h _ wall (Ya3 t q) (Yfd hw k) (YeV h408 hw k) (Ydu hw k _).1 (Ydu hw k _).2 ⟨GE _,GE _,GE _⟩ (GE _)
  (fun hk=>absurd (show (35:Int)≤1 from hk) (by decide)) fun o ho _=>by
   obtain⟨⟨c,h1,h2⟩,-⟩:=Yel hw k o ho;rw[h2];exact K428r h408.2.2.2.1.2 h1
theorem Yj3 {s:Sto} {wall:Int} {m:Msg} (hk:35≤m.kind):YcF s wall m=if YaM s wall m then Yau s m else (s,[]):=by
 unfold YcF YdI;rw[Gr hk]
theorem Yjq (h:H413 Pg) (h408:H408 Pg) (hw:OkW g i net asks) (k:Nat) (wall n:Int) {c:Cel} (hc:Yy c=true):K' Pg 413 [.agg (YU (stW g k)),iz wall,.agg (Y9 (Yb6 n c))]=some (eSM (YcF (stW g k) wall (Yb6 n c))):=by
 rw[Yj3 (show (35:Int)≤35 by decide)];exact K413w h.1 _ wall (Yb6 n c) (Yfd hw k) (YeV h408 hw k) (Ydu hw k _).1 (Ydu hw k _).2 ⟨GE _,GE _,(by decide:(2:Nat)≤10000)⟩ (show (35:Int)≤35 by decide) (K430r h408.2.2.2.1 hc)
theorem Yj5 (h:H413 Pg) (h408:H408 Pg) (hw:OkW g i net asks) (k:Nat) (wall n:Int):K' Pg 413 [.agg (YU (stW g k)),iz wall,.agg (Y9 (Ydb n))]=some (eSM (YcF (stW g k) wall (Ydb n))):=by
 have kt:K' Pg 430 [.str (Ydb n).text]=some (.bool (Yab (Ydb n).text)):=K430 h408.2.2.2.1 [] (by simp);rw[Yj3 (show (35:Int)≤36 by decide)];exact K413w h.1 _ wall (Ydb n) (Yfd hw k) (YeV h408 hw k) (Ydu hw k _).1 (Ydu hw k _).2 ⟨GE _,GE _,GE _⟩ (show (35:Int)≤36 by decide) kt
end
def H453 (Pg:PgT):Prop:=Pg 453=some (.codeR F453 0)∧H454 Pg
theorem K453 (h:H453 Pg) {g g':Gw} {i:Nat} {net0:List Msg} {asks:List Rq} {k:Nat} (hk:k<3) {m:Msg} (hto:m.to=(k:Int)+1) {wall:Int} {l:List Msg} (net:List Msg)
  (k413:K' Pg 413 [.agg (YU (stW g k)),iz wall,.agg (Y9 m)]=some (eSM (stW g' k,l))) (hj:∀j,j≠k→stW g' j=stW g j) (hw':OkW g' i net0 asks)
  (hl:l.length≤10000) (hn:net.length≤200) (hs:∀x∈l,SayOk g' asks x) (hal:asks.length≤1000) :
  K' Pg 453 [.tuple (.lref 0 0::YcK ⟨stW g,net,asks⟩),.agg (Y9 m),iz wall]=some (.tuple [.bool true,.tuple (YcK ⟨stW g',YcP net l,asks⟩)]):=by
 obtain⟨h,h454⟩:=h
 have k454:=K454 h454 hw' net l hl hn hs hal
 have hup:upd (stW g) k (stW g' k)=stW g':=by
  funext j
  unfold upd;by_cases e:j=k
  ·rw[Gr e,e]
  ·rw[Gn e];exact (hj j e).symm
 refine YeA [.t 6] (ws:=[.bool true]) h rfl rfl fun S0 ⟨r0,r,hT0,mm,aa⟩=>?_
 have r1:=r 0
 have r2:=r 1
 simp only[JhD,JhC,Option.getD_some] at r1 r2
 have n4:=mm 4 rfl
 have n7:=mm 7 rfl
 have a1:=aa 20006 (by omega)
 have a2:=aa 20007 (by omega)
 have hmv:=hT0.1
 have hdec:IntKind.i64.wrap (m.to-1)=(k:Int):=by rw[hto,JiG (by omega) (by omega)];omega
 have hia:=Yhd (s:=0) hk
 have hle:k*2+2≤8:=by omega
 have hls:=fun v1 v2=>Yii (s:=stW g) (v1:=v1) (v2:=v2) hk
 simp only[go_sem] at r1 r2 k413 hmv hia hls
 have hup2:upd (stW g) k ⟨(stW g' k).id,(stW g' k).owns⟩=stW g':=hup
 simp only[go_sem] at k454
 simp only[F453,c453,r453_0,r453_1,r453_2,r453_3,go_sem,r0,r1,r2,n4,n7,hmv,hdec,hk,hle,hls,k413,hup2]
 refine Qe (a:=9006) (b:=9007) k454 (by simp only[go_sem]) ⟨hT0.2.ra,hT0.2.rb,hT0.2.rn⟩ (.inl a1) (.inl a2) (by decide) (fun A=>by simp only[Jo,go_sem]) rfl fun S1 b1 b2 b3 b4=>?_
 have hm1:=b3.1
 simp only[go_sem]
 exact⟨20006,20007,b3.set (by simp only[go_sem]) rfl,[.bool true],by simp only[go_sem],fun A=>by simp only[go_sem]⟩
structure Act18 where
 kind:Int
 who:Int
 n:Int
 wall:Int
 req:Rq
@[go_sem] def YkM (a:Act18):List V:=[iz a.kind,iz a.who,iz a.n,iz a.wall,iz a.req.client,iz a.req.req,iz a.req.kind,.str a.req.key,.str a.req.value,.bool a.req.had,.str a.req.old,iz a.req.at_.wall,iz a.req.at_.tick,iz a.req.at_.node,.str a.req.hi,iz a.req.limit]
theorem Ylt (n:Int):0≤IntKind.u64.wrap n:=by simp[IntKind.wrap,IntKind.bits,IntKind.signed];omega
theorem Ykt {n m:Int} (h:0≤n) (hm:0<m):n.tmod m=((n.tmod m).toNat:Int)∧n.tmod m<m:=by
 have:=Int.tmod_nonneg m h;exact⟨by omega,Int.tmod_lt_of_pos n hm⟩
section
variable {g g':Gw} {i:Nat} {net net':List Msg} {asks:List Rq}
theorem OkW.sub (h:OkW g i net asks) (hs:∀x∈net',x∈net):OkW g i net' asks:={h with net:=fun x hx=>h.net x (hs x hx)}
theorem OkW.said (h:OkW g i net asks) {l:List Msg} (hl:∀x∈l,SayOk g asks x):OkW g i (YcP net l) asks:=
 have key:∀x∈YcP net l,Yh0 g x:=fun x hx=>by
  rcases YhT hx with hx|⟨h1,h2⟩
  ·exact h.net x hx
  ·rcases hl x h1 with h3|⟨-,h3,-⟩
   ·exact h3
   ·omega
 {h with net:=key}
theorem Ykr (h:OkW g i net asks) (k:Nat):Bd 2 2 968030 (stW g k):=by
 refine⟨?_,fun o ho=>?_⟩
 ·match k with
  |0=>simp[stW]
  |1=>simp[stW]
  |k+2=>simp[stW,newS]
 ·obtain⟨h1,h2,h3,h4⟩:=Yek h k o ho;obtain⟨⟨c,c1,c2⟩,d,d1,d2⟩:=Yel h k o ho;rw[c2,d2];exact⟨h1,h2,by omega,Ydx c1,Ydx d1,h4⟩
theorem YfT (h:OkW g i net asks) (k:Nat) {m:Msg} {wall:Int} (hm:m.mem.length≤4000) (ht:m.text.length≤968030) {s:Sto} {l:List Msg} (e:YcF (stW g k) wall m=(s,l)):l.length≤10000:=by
 have:(YcF (stW g k) wall m).2.length≤10000:=by
  unfold YcF;split
  ·exact (Yj2 (Ykr h k) (by omega) (by omega) hm ht).2.1
  ·exact GE _
 rw[e] at this;exact this
theorem YjD (h:OkW g i net asks) (k:Nat):(YbE (stW g k)).length≤10000:=by
 have h1:=Ydr (n:=2) (l:=(stW g k).owns) fun o ho=>(Yek h k o ho).1;have h2:=(Ykr h k).1;unfold YbE;omega
theorem net_come (h:H453 Pg) (h413:H413 Pg) (h408:H408 Pg) (hw:OkW g i net asks) (hi:i≤1000) (hn:net.length≤200) (ha:asks.length≤1000) {x:Msg} (hx:Yh0 g x) (wall:Int) :
  ∃g' net',K' Pg 453 [.tuple (.lref 0 0::YcK ⟨stW g,net,asks⟩),.agg (Y9 x),iz wall]=some (.tuple [.bool true,.tuple (YcK ⟨stW g',net',asks⟩)])∧OkW g' i net' asks∧StepW g g'∧net'.length≤200:=by
 rcases hx with ⟨n,c,rfl,h1,h2,h3,h4⟩|⟨n,rfl,h1,h2⟩
 ·obtain⟨g',l,e1,e2,e3,e4,e5⟩:=YjB hw hi ⟨h1,h2⟩ h3 h4 wall
  have k413:=Yjq h413 h408 hw 1 wall n h3
  rw[e1] at k413
  exact⟨g',YcP net l,K453 h (k:=1) (by omega) rfl net k413 e2 e4 (YfT hw 1 (by show 2≤4000;omega) (Ydx h3) e1) hn e5 ha,e4.said e5,e3,Yds hn⟩
 ·obtain⟨g',l,e1,e2,e3,e4,e5⟩:=YjH hw hi ⟨h1,h2⟩ wall
  have k413:=Yj5 h413 h408 hw 0 wall n
  rw[e1] at k413
  exact⟨g',YcP net l,K453 h (k:=0) (by omega) rfl net k413 e2 e4 (YfT hw 0 (by show 0≤4000;omega) (by show 0≤968030;omega) e1) hn e5 ha,e4.said e5,e3,Yds hn⟩
end
def H417 (Pg:PgT):Prop:=Pg 417=some (.codeR F417 0)∧H453 Pg∧H413 Pg∧H408 Pg∧H407 Pg
theorem K417 (h:H417 Pg) {g:Gw} {i:Nat} {net:List Msg} {asks:List Rq} (hw:OkW g i net asks) (hi:i≤50) (hn:net.length≤200) (ha:asks.length≤i) (a:Act18) :
  ∃g' net' asks',K' Pg 417 [.tuple (.lref 0 0::YcK ⟨stW g,net,asks⟩),.agg (YkM a),iz i]=some (.tuple [.bool true,.tuple (YcK ⟨stW g',net',asks'⟩)])∧OkW g' (i+1) net' asks'∧StepW g g'∧net'.length≤200∧asks'.length≤i+1:=by
 obtain⟨h,h453,h413,h408,h407⟩:=h
 obtain⟨k1,k2⟩:=Ykt (Ylt a.who) (show (0:Int)<3 by omega)
 have wk:IntKind.i64.wrap ((IntKind.u64.wrap a.who).tmod 3)=(((IntKind.u64.wrap a.who).tmod 3).toNat:Int):=by
  rw[JiG (by show _≤(IntKind.u64.wrap a.who).tmod 3;omega) (by show (IntKind.u64.wrap a.who).tmod 3≤_;omega)];exact k1
 have hk:((IntKind.u64.wrap a.who).tmod 3).toNat<3:=by omega
 generalize ((IntKind.u64.wrap a.who).tmod 3).toNat=k at hk wk
 clear k1 k2
 generalize hW:IntKind.i64.wrap ((IntKind.u64.wrap a.wall).tmod 100)=W
 cases c1:decide ((IntKind.u64.wrap a.kind).tmod 13<4) with
 |true=>
  obtain⟨g',l,e1,e2,e3,e4,e5⟩:=YjI hw (by omega) k hk {a.req with client:=1,req:=(i:Int)+1} rfl rfl W
  have k413:=k413_ask h413 h408 hw k W ((k:Int)+1) {a.req with client:=1,req:=(i:Int)+1}
  rw[e1] at k413
  have k453:=K453 h453 hk rfl net k413 e2 e4 (YfT hw k (GE _) (GE _) e1) hn e5 (by simp only[Ge,List.length_singleton];omega)
  clear k413 e1
  refine⟨g',YcP net l,asks++[{a.req with client:=1,req:=(i:Int)+1}],YeA [.t 6] (ws:=[.bool true]) h rfl rfl fun S0 ⟨r0,r,hT0,mm,aa⟩=>?_,e4.said e5,e3,Yds hn,by simp only[Ge,List.length_singleton];omega⟩
  have r1:=r 0
  have r2:=r 1
  simp only[JhD,JhC,Option.getD_some] at r1 r2
  have n4:=mm 4 rfl
  have n10:=mm 10 rfl
  have a1:=aa 20006 (by omega)
  have a2:=aa 20007 (by omega)
  have hmv:=hT0.1
  have hrb:=hT0.2.rb
  have hinc:IntKind.i64.wrap ((i:Int)+1)=(i:Int)+1:=JiG (by omega) (by omega)
  have hkn:IntKind.i64.wrap ((k:Int)+1)=(k:Int)+1:=JiG (by omega) (by omega)
  have hlim:asks.length+1≤lim:=by unfold lim;omega
  simp only[go_sem] at r1 r2 hmv hrb
  simp only[go_sem,Ya3,zMs,Ycj,Ybl,YbY] at k453
  simp only[F417,c417,go_sem,r0,r1,r2,n4,n10,hmv,hrb,hW,wk,c1,hinc,hkn,hlim,Gj]
  refine Qe (a:=9006) (b:=9007) k453 (by simp only[go_sem,Ge,List.length_singleton]) ?_ (.inl a1) (.inl a2) (by decide) (fun A=>by simp only[Jo,Jic,go_sem]) rfl fun S1 b1 b2 b3 b4=>?_
  ·have:=hT0.2.ask (asks++[{a.req with client:=1,req:=(i:Int)+1}])
   rw[GF] at this
   exact⟨this.ra,this.rb,this.rn⟩
  have hm1:=b3.1
  simp only[go_sem]
  exact⟨20006,20007,b3.set (by simp only[go_sem]) rfl,[.bool true],by simp only[go_sem],fun A=>by simp only[go_sem]⟩
 |false=>
 cases c2:decide ((IntKind.u64.wrap a.kind).tmod 13=12) with
 |true=>
  have k407:=K407g h407 (stW g k) (Yfd hw k) (YeV h408 hw k)
  rw[hw.right (by omega) k,Gr rfl] at k407
  have k454:=K454 h453.2 hw net (YbE (stW g k)) (YjD hw k) hn (YgV hw (by omega) hk) (by omega)
  have hts:=hw.more.said (YgV hw.more (by omega) hk)
  refine⟨g,YcP net (YbE (stW g k)),asks,YeA [.t 6] (ws:=[.bool true]) h rfl rfl fun S0 ⟨r0,r,hT0,mm,aa⟩=>?_,hts,Ych,Yds hn,by omega⟩
  generalize YbE (stW g k)=l at *
  have hup:upd (stW g) k ⟨(stW g k).id,(stW g k).owns⟩=stW g:=by
   funext j
   unfold upd;by_cases e:j=k
   ·rw[Gr e,e]
   ·rw[Gn e]
  have r1:=r 0
  have r2:=r 1
  simp only[JhD,JhC,Option.getD_some] at r1 r2
  have n4:=mm 4 rfl
  have n11:=mm 11 rfl
  have a1:=aa 20106 (by omega)
  have a2:=aa 20107 (by omega)
  have hmv:=hT0.1
  have hia:=Yhd (s:=0) hk
  have hle:k*2+2≤8:=by omega
  have hls:=fun v1 v2=>Yii (s:=stW g) (v1:=v1) (v2:=v2) hk
  simp only[go_sem] at r1 r2 hmv hia hls k407 k454
  simp only[F417,c417,go_sem,r0,r1,n4,n11,hmv,hW,wk,c1,c2,hk,hle,hls,k407,hup]
  refine Qe (a:=9006) (b:=9007) k454 (by simp only[go_sem]) ⟨hT0.2.ra,hT0.2.rb,hT0.2.rn⟩ (.inl a1) (.inl a2) (by decide) (fun A=>by simp only[Jo,go_sem]) rfl fun S1 b1 b2 b3 b4=>?_
  have hm1:=b3.1
  simp only[go_sem]
  exact⟨20106,20107,b3.set (by simp only[go_sem]) rfl,[.bool true],by simp only[go_sem],fun A=>by simp only[go_sem]⟩
 |false=>
 by_cases hne:net=[]
 ·refine⟨g,net,asks,YeA [.t 6] (ws:=[.bool true]) h rfl rfl fun S0 ⟨r0,r,hT0,mm,aa⟩=>?_,hw.more,Ych,hn,by omega⟩
  have r1:=r 0
  have r2:=r 1
  simp only[JhD,JhC,Option.getD_some] at r1 r2
  have n4:=mm 4 rfl
  have hmv:=hT0.1
  have hl0:decide ((net.length:Int)=0)=true:=by rw[hne];rfl
  simp only[go_sem] at r1 r2 hmv
  simp only[F417,c417,go_sem,r0,r1,n4,hmv,hW,wk,c1,c2,hl0]
  exact⟨9006,9007,hT0.set (by simp only[go_sem]) rfl,[.bool true],by simp only[go_sem],fun A=>by simp only[go_sem]⟩
 have hL:0<net.length:=Gaq.2 hne
 have hl0:decide ((net.length:Int)=0)=false:=Gp (by omega)
 have hl1:¬(net.length:Int)=0:=by omega
 obtain⟨l1,l2⟩:=Ykt (Ylt a.n) (show (0:Int)<net.length by omega)
 have wL:IntKind.u64.wrap (net.length:Int)=net.length:=by simp[IntKind.wrap,IntKind.bits,IntKind.signed];omega
 have hj:((IntKind.u64.wrap a.n).tmod net.length).toNat<net.length:=by
  show ((IntKind.u64.wrap a.n).tmod net.length).toNat<_;omega
 have wi:IntKind.i64.wrap ((IntKind.u64.wrap a.n).tmod net.length)=(((IntKind.u64.wrap a.n).tmod net.length).toNat:Int):=by
  rw[JiG (by show _≤(IntKind.u64.wrap a.n).tmod _;omega) (by show (IntKind.u64.wrap a.n).tmod _≤_;omega)];exact l1
 generalize ((IntKind.u64.wrap a.n).tmod net.length).toNat=j at hj wi
 clear l1 l2
 obtain⟨x,hx,-⟩:=Jiq hj
 have hxm:=List.mem_of_getElem? hx
 have hxn:=hw.net x hxm
 have hj1:=inc64q (i:=j) (by omega)
 have h1:j≤net.length:=by omega
 have h2:j+1≤net.length:=by omega
 have h4:(0:Nat)≤j:=GE _
 have q1:(List.take j (List.map Y9 net)).length=j:=by simp;omega
 have q2:List.take net.length (List.map Y9 net)=List.map Y9 net:=Gaa (by simp)
 have q3:(List.drop (j+1) (List.map Y9 net)).length=net.length-(j+1):=by simp
 have m1:j≤lim:=by unfold lim;omega
 have m2:j+(net.length-(j+1))≤lim:=by unfold lim;omega
 have q4:List.take j (List.map Y9 net)++List.drop (j+1) (List.map Y9 net)=(net.take j++net.drop (j+1)).map Y9:=by simp[GaF,Gao]
 have q5:j+(net.length-(j+1))=(net.take j++net.drop (j+1)).length:=by simp;omega
 have hsub:∀y∈net.take j++net.drop (j+1),y∈net:=fun y hy=>by
  rcases GT.1 hy with hy|hy
  ·exact Gah hy
  ·exact Gac hy
 have hn1:(net.take j++net.drop (j+1)).length≤200:=by rw[←q5];omega
 cases c3:decide ((IntKind.u64.wrap a.kind).tmod 13=11) with
 |true=>
  have c4:decide ((IntKind.u64.wrap a.kind).tmod 13=10)=false:=Gp (by have:=Gg c3;omega)
  obtain⟨g',net',k453,w1,w2,w3⟩:=net_come h453 h413 h408 hw (by omega) hn (by omega) hxn W
  refine⟨g',net',asks,YeA [.t 6] (ws:=[.bool true]) h rfl rfl fun S0 ⟨r0,r,hT0,mm,aa⟩=>?_,w1.more,w2,w3,by omega⟩
  have r1:=r 0
  have r2:=r 1
  simp only[JhD,JhC,Option.getD_some] at r1 r2
  have n4:=mm 4 rfl
  have n14:=mm 14 rfl
  have a1:=aa 20206 (by omega)
  have a2:=aa 20207 (by omega)
  have hmv:=hT0.1
  have hra:=hT0.2.ra
  simp only[go_sem] at r1 r2 hmv hra k453
  simp only[F417,c417,go_sem,r0,r1,n4,n14,hmv,hra,hW,wk,c1,c2,c3,c4,hl1,wL,wi,hj,hx,Gj]
  refine Qe (a:=9006) (b:=9007) k453 (by simp only[go_sem,hmv]) ⟨hT0.2.ra,hT0.2.rb,hT0.2.rn⟩ (.inl a1) (.inl a2) (by decide) (fun A=>by simp only[Jo,Jic,JgU,JgX,JgY,JgT,go_sem]) rfl fun S1 b1 b2 b3 b4=>?_
  have hm1:=b3.1
  simp only[go_sem]
  exact⟨20206,20207,b3.set (by simp only[go_sem]) rfl,[.bool true],by simp only[go_sem],fun A=>by simp only[go_sem]⟩
 |false=>
 cases c4:decide ((IntKind.u64.wrap a.kind).tmod 13=10) with
 |true=>
  refine⟨g,net.take j++net.drop (j+1),asks,YeA [.t 6] (ws:=[.bool true]) h rfl rfl fun S0 ⟨r0,r,hT0,mm,aa⟩=>?_,hw.more.sub hsub,Ych,hn1,by omega⟩
  have r1:=r 0
  have r2:=r 1
  simp only[JhD,JhC,Option.getD_some] at r1 r2
  have n4:=mm 4 rfl
  have n14:=mm 14 rfl
  have a15:=aa 15 (by omega)
  have hmv:=hT0.1
  have hra:=hT0.2.ra
  simp only[go_sem] at r1 r2 hmv hra
  simp only[F417,c417,go_sem,r0,r1,n4,n14,a15,hmv,hra,hW,wk,c1,c2,c3,c4,hl1,wL,wi,hj,hx,hj1,h1,h2,q1,q2,q3,m1,m2,Gj]
  refine⟨15,9007,⟨?_,?_⟩,[.bool true],by simp only[go_sem],fun A=>by simp only[go_sem]⟩
  ·simp only[go_sem,q5]
  ·rw[q4]
   exact⟨by simp only[go_sem],by simp only[go_sem];exact hT0.2.rb,by decide⟩
 |false=>
  obtain⟨g',net',k453,w1,w2,w3⟩:=net_come h453 h413 h408 (hw.sub hsub) (by omega) hn1 (by omega) hxn W
  refine⟨g',net',asks,YeA [.t 6] (ws:=[.bool true]) h rfl rfl fun S0 ⟨r0,r,hT0,mm,aa⟩=>?_,w1.more,w2,w3,by omega⟩
  have r1:=r 0
  have r2:=r 1
  simp only[JhD,JhC,Option.getD_some] at r1 r2
  have n4:=mm 4 rfl
  have n14:=mm 14 rfl
  have a15:=aa 15 (by omega)
  have a1:=aa 20206 (by omega)
  have a2:=aa 20207 (by omega)
  have hmv:=hT0.1
  have hra:=hT0.2.ra
  simp only[go_sem] at r1 r2 hmv hra k453
  simp only[F417,c417,go_sem,r0,r1,n4,n14,a15,hmv,hra,hW,wk,c1,c2,c3,c4,hl1,wL,wi,hj,hx,hj1,h1,h2,q1,q2,q3,m1,m2,Gj]
  refine Qe (a:=15) (b:=9007) k453 (by simp only[go_sem,q5]) ?_ (.inl (by simp only[go_sem,a1])) (.inl (by simp only[go_sem,a2])) (by decide) (fun A=>by simp only[Jo,Jic,JgU,JgX,JgY,JgT,go_sem]) rfl fun S1 b1 b2 b3 b4=>?_
  ·rw[q4]
   exact⟨by simp only[go_sem],by simp only[go_sem];exact hT0.2.rb,by decide⟩
  have hm1:=b3.1
  simp only[go_sem]
  exact⟨20206,20207,b3.set (by simp only[go_sem]) rfl,[.bool true],by simp only[go_sem],fun A=>by simp only[go_sem]⟩
def sI (i:Nat):Nat→Sto:=fun j=>if j<i then newS (j+1) else ⟨0,[]⟩
theorem YmQ {i:Nat}:upd (sI i) i (newS (i+1))=sI (i+1):=by
 funext j
 unfold upd sI;by_cases h:j=i
 ·subst h;simp
 ·rw[Gn h];by_cases h1:j<i
  ·rw[Gr h1,Gr (by omega)]
  ·rw[Gn h1,Gn (by omega)]
def YgB:Cel:=⟨[⟨1,1,⟨[],[]⟩,1,[],⟨0,0,0⟩,⟨0,0,0⟩,[],0,0,0,0⟩],⟨0,0,0⟩,0⟩
def g00:Gw:=⟨1,YgB,YgB,false,1,YgB,[]⟩
theorem YiC:cB YgB=YjJ:=by decide +kernel
theorem YmP {v1 v2:V}:YcW (sI 3) v1 v2=YcW (stW g00) v1 v2:=by
 have e0:sI 3 0=stW g00 0:=by simp[sI,newS,stW,ldR,g00,oC3,YiC]
 have e1:sI 3 1=stW g00 1:=by simp[sI,newS,stW,flR,g00,oC2,YiC]
 have e2:sI 3 2=stW g00 2:=rfl;unfold YcW;rw[e0,e1,e2]
theorem HV.beg {S:St} {v a b:Nat} (h:HV S v ⟨sI 3,[],[]⟩ a b):HV S v ⟨stW g00,[],[]⟩ a b:=⟨h.1.trans (by
 unfold Ye0;simp only[YmP]),⟨h.2.ra,h.2.rb,h.2.rn⟩⟩
theorem YjV:OkW g00 0 [] []:=by
 have hc:Yy YgB=true:=by decide
 have ho:Ylu YgB:=⟨_,rfl⟩;exact⟨hc,hc,hc,ho,ho,⟨_,_,rfl,rfl,YdV (by decide)⟩,⟨by decide,by decide,by decide⟩,fun _=>⟨rfl,rfl,rfl,rfl⟩,fun h=>(by cases h),fun x hx=>(by cases hx),fun q hq=>(by cases hq)⟩
@[go_sem] def YfL (l:List Act18):V:=.slice 16 (l.map YkM)
theorem YjL (h:H406 Pg) {g:Gw} {i:Nat} {net:List Msg} {asks:List Rq} (hw:OkW g i net asks) (hi:i≤1000):K' Pg 406 [.agg (YU (stW g 0)),iz 1]=some (.tuple [.agg (Yk g.b),.bool true]):=by
 have k:=K406g h (stW g 0) 1 (Yfd hw 0) (YeV h.2.2.1 hw 0) fun o ho _=>by
  obtain⟨⟨c,h1,h2⟩,-⟩:=Yel hw 0 o ho;rw[h2];exact K428r h.2.2.2.2 h1
 have e:cellO (stW g 0) 1=some g.b:=by
  unfold cellO;rw[hw.right hi 0,Yji,YfQ,Ycw];exact YcQ.2 ⟨rfl,hw.hb⟩
 rw[e] at k;exact k
theorem Yjo {g g':Gw} {i:Nat} {net:List Msg} {asks:List Rq} (hw:OkW g i net asks) (hs:StepW g g'):Yll g.b g'.b:=by
 rcases hs.b with e|e
 ·obtain⟨s,h⟩:=hw.ob;have hsr:=(Yar ((Yt.1 hw.hb).2.2.2.2 s (by rw[h];exact GR ..)).2.1).2.1;rw[e];exact⟨s,s,h,h,YdV hsr⟩
 ·rw[e];exact hw.gr
theorem Ye4 {S:St} {t:Th} {a b:Nat} (hT:HV S 3 t a b):HV (S.head [] [3,6,10306,3,7,10307] [10,13] [20006,20007]) 3 t 10306 10307∧(S.head [] [3,6,10306,3,7,10307] [10,13] [20006,20007]).A 20006=none∧(S.head [] [3,6,10306,3,7,10307] [10,13] [20006,20007]).A 20007=none:=by
 obtain⟨q1,q2,q3⟩:=HV.head (h1:=10306) (h2:=10307) (Wv:=[10,13]) (Wa:=[20006,20007]) hT (by decide) rfl ⟨rfl,rfl⟩;exact⟨q1,q2 _ rfl,q2 _ rfl⟩
def H418 (Pg:PgT):Prop:=Pg 418=some (.code F418)∧H417 Pg∧H395 Pg∧H400 Pg∧H406 Pg∧H223 Pg
theorem K418 (h:H418 Pg) (l:List Act18):K' Pg 418 [YfL l]=some (.bool true):=by
 obtain⟨h,h417,h395,h400,h406,h223⟩:=h;have k400:=K400 h400;have hia0:JaZ 2 3 (.lref 3 0) (.int .i64 0)=some (.lref 3 0):=rfl;have hl2:∀(g:Gw) v1 v2,((YcW (stW g) v1 v2).drop 0).take 2=YU (stW g 0):=fun _ _ _=>rfl;simp only[go_sem,GaH] at hia0 hl2;refine Qb h rfl ?_;simp only[F418,c418,go_sem];unfold l418_0;refine JiJ (fun (i:Nat) S=>i≤3∧S.ρ 0=YfL l∧S.ρ 3=.lref 3 0∧S.ρ 16=iz i∧HV S 3 ⟨sI i,[],[]⟩ 10306 10307∧S.μ 5=none∧S.μ 7=none) (fun i=>3-i) 0 ?_ ?_
 ·exact⟨GE _,Jiu rfl rfl,Jiu rfl rfl,Jiu rfl rfl,HV.headn ⟨rfl,by simp[upd],by simp[upd],by decide⟩ rfl,Jis (.inr rfl),Jis (.inl rfl)⟩
 ·intro i S ⟨hi,s0,s3,s16,hT,n5,n7⟩;have m3':=hT.1;simp only[go_sem] at m3';cases c1:decide ((i:Int)<3) with
  |true=>
   have hi3:i<3:=by have:=Gg c1;omega
   have hinc:IntKind.i64.wrap ((i:Int)+1)=(i:Int)+1:=JiG (by omega) (by omega);have k395:=K395 h395 ((i:Int)+1);rw[Gr (by omega),show ((i:Int)+1).toNat=i+1 by omega] at k395;have hia:=Yhd (s:=3) hi3;have hle:i*2+2≤8:=by omega
   have hup:upd (sI i) i ⟨(newS (i+1)).id,(newS (i+1)).owns⟩=sI (i+1):=YmQ;simp only[go_sem] at k395 hia;simp only[go_sem,s0,s3,s16,n5,n7,m3',c1,hi3,hinc,k395,hia,hle,hup];exact⟨i+1,by omega,by omega,by rw[show (((i+1:Nat):Int))=(i:Int)+1 by omega],HV.headn (t:=⟨sI (i+1),[],[]⟩) ⟨by simp only[go_sem],hT.2.ra,hT.2.rb,hT.2.rn⟩ rfl⟩
  |false=>
   have hi3:i=3:=by have:=Gb c1;omega
   subst hi3;replace hT:=hT.beg;replace m3':=hT.1;have k406a:=YjL h406 YjV (by omega);simp only[go_sem] at m3' k406a;simp only[go_sem,s0,s3,s16,n5,n7,m3',c1,hia0,hl2,k406a];unfold l418_1;refine JiJ (fun (i:Nat) S=>i≤l.length∧i≤50∧S.ρ 0=YfL l∧S.ρ 3=.lref 3 0∧S.ρ 7=.lref 7 0∧S.ρ 9=iz i∧S.A 20006=none∧S.A 20007=none∧S.μ 10=none∧S.μ 13=none∧∃g net asks,HV S 3 ⟨stW g,net,asks⟩ 10306 10307∧S.μ 7=some (Yk g.b,false)∧OkW g i net asks∧net.length≤200∧asks.length≤i) (fun i=>50-i) 0 ?_ ?_
   ·have hd:=hT.set (ρ:=upd (upd (upd S.ρ 17 (V.bool false)) 7 (V.lref 7 0)) 9 (V.int IntKind.i64 0)) (A:=S.A) (μ:=upd (upd S.μ 7 (some ([V.slice 17 [],V.int IntKind.i64 0,V.int IntKind.i64 0,V.int IntKind.i64 0,V.int IntKind.i64 0],false))) 7 (some (Yk g00.b,false))) (by simp only[go_sem]) rfl;exact⟨GE _,GE _,Jiu (by simp only[go_sem,s0]) rfl,Jiu (by simp only[go_sem,s3]) rfl,Jiu (by simp only[go_sem]) rfl,Jiu rfl rfl,(Ye4 hd).2.1,(Ye4 hd).2.2,Jis (.inr rfl),Jis (.inr rfl),g00,[],[],(Ye4 hd).1,Jit (by simp only[go_sem]) rfl rfl,YjV,GE _,GE _⟩
   ·clear s0 s3 s16 hT m3' n5 n7 hi;clear S;intro i S ⟨hi,hi2,s0,s3,s7,s9,a1,a2,n10,n13,g,net,asks,hT,m7,hw,hn,ha⟩;have hinc:=inc64q (i:=i) (by omega)
    cases c2:decide ((i:Int)<(l.length:Int)) with
    |false=>simp only[go_sem,s0,s3,s7,s9,Gj,c2,k400]
    |true=>
    cases c3:decide ((i:Int)<50) with
    |false=>simp only[go_sem,s0,s3,s7,s9,Gj,c2,c3,k400]
    |true=>
    have hlt:=Yj c2;have hi50:i<50:=by have:=Gg c3;omega
    obtain⟨a,ha',-⟩:=Jiq hlt;cases c4:decide (100<(a.req.key.length:Int)) with
    |true=>simp only[go_sem,s0,s3,s7,s9,Gj,c2,c3,hlt,ha',c4,k400]
    |false=>
    obtain⟨g',net',asks',k417,hw',hst,hn',ha2⟩:=K417 h417 hw (by omega) hn ha a;have k406:=YjL h406 hw' (by omega);obtain⟨s,s',hs1,hs2,hgr⟩:=Yjo hw hst;have sm1:=(Yal hw.hb).2 s (by rw[hs1];exact GR ..);have sm2:=(Yal hw'.hb).2 s' (by rw[hs2];exact GR ..);have m7':=m7;simp only[go_sem] at k417 k406 m7';simp only[hs1,hs2,GC,Gk] at k406 m7';simp only[go_sem,s0,s3,s7,s9,Gj,c2,c3,hlt,ha',c4];refine Qe (a:=10306) (b:=10307) k417 hT.1 ⟨hT.2.ra,hT.2.rb,hT.2.rn⟩ (.inl a1) (.inl a2) (by decide) (fun A=>by simp only[Jo,Jii,Jic,go_sem]) rfl fun S1 b1 b2 b3 b4=>?_;have hm1:=b3.1;have b7:=b2 7 rfl;have b10:=(b2 10 rfl).trans n10;have b13:=(b2 13 rfl).trans n13;simp only[go_sem] at hm1;have hi17:∀r,JaG 17 (.slice 17 [r]) (.int .i64 0)=some (.cptr r 0):=fun _=>rfl;simp only[go_sem] at hi17 b7;simp only[go_sem,b1,b7,b10,b13,s0,s3,s7,s9,hm1,m7',hia0,hl2,k406,hi17];unfold l418_2;refine JiJ (fun (j:Nat) S=>j≤s.ents.length∧S.ρ 0=YfL l∧S.ρ 3=.lref 3 0∧S.ρ 7=.lref 7 0∧S.ρ 10=.lref 10 0∧S.ρ 9=iz i∧S.ρ 89=Yf s.ents∧S.ρ 90=iz s.ents.length∧S.ρ 91=iz j∧HV S 3 ⟨stW g',net',asks'⟩ 20006 20007∧S.μ 7=some (Yk g.b,false)∧S.μ 10=some (Yk g'.b,false)∧S.μ 13=none) (fun j=>s.ents.length-j) 0 ?_ ?_
    ·exact⟨GE _,Jiu (by simp only[go_sem,s0]) rfl,Jiu (by simp only[go_sem,s3]) rfl,Jiu (by simp only[go_sem,s7]) rfl,Jiu (by simp only[go_sem]) rfl,Jiu (by simp only[go_sem,s9]) rfl,Jiu (by simp only[go_sem]) rfl,Jiu (by simp only[go_sem]) rfl,Jiu (by simp only[go_sem]) rfl,(b3.set (by simp only[go_sem]) rfl).headn rfl,Jit (by simp only[go_sem,b7,m7',hs1,GC,Gk]) rfl rfl,Jit (by simp only[go_sem,hs2,GC,Gk]) rfl rfl,Jis (.inr rfl)⟩
    ·clear hm1 b1 b2 b3 b4 b7 b10 b13 s0 s3 s7 s9 a1 a2 hT m7 m7' n10 n13 k406 k417;clear S1 S;intro j S ⟨hj,s0,s3,s7,s10,s9,s89,s90,s91,hT,m7,m10,n13⟩;have m7':=m7;have m10':=m10;have hm:=hT.1;simp only[go_sem] at m7' m10' hm;simp only[hs1,hs2,GC,Gk] at m7' m10';cases c5:decide ((j:Int)<(s.ents.length:Int)) with
     |true=>
      have hjl:=Yj c5;obtain⟨e,he,-⟩:=Jiq hjl;have hem:=List.mem_of_getElem? he;have hinj:IntKind.i64.wrap ((j:Int)+1)=((j+1:Nat):Int):=by have:=sm1.1.1;rw[JiG (by omega) (by omega)];omega
      obtain⟨d,hd⟩:=hgr e hem;have hcl:=(sm1.1.2 e hem).1;have k223:=K223 h223 s'.ents e.key sm2.1.1;have hlen:decide (((ofI e.key s'.ents).length:Int)<(e.chain.length:Int))=false:=Gp (by rw[←hd,Ge];omega);have hpre:∀(k:Nat) v,e.chain[k]?=some v→(ofI e.key s'.ents)[k]?=some v∧k<(ofI e.key s'.ents).length:=fun k v hv=>by
       have hk:=(List.getElem?_eq_some_iff.1 hv).1;rw[←hd];exact⟨by rw[List.getElem?_append_left hk];exact hv,by rw[Ge];omega⟩
      generalize ofI e.key s'.ents=cd at *
      simp only[go_sem,Ye] at k223;simp only[go_sem,Ye,s0,s3,s7,s9,s10,s89,s90,s91,hm,m7',m10',n13,c5,hjl,he,hi17,k223,hlen,Gj];unfold l418_3;refine JiJ (fun (k:Nat) S=>k≤e.chain.length∧S.ρ 0=YfL l∧S.ρ 3=.lref 3 0∧S.ρ 7=.lref 7 0∧S.ρ 10=.lref 10 0∧S.ρ 9=iz i∧S.ρ 89=Yf s.ents∧S.ρ 90=iz s.ents.length∧S.ρ 91=iz j∧S.ρ 13=.lref 13 0∧S.ρ 14=Ye cd∧S.ρ 111=iz e.chain.length∧S.ρ 112=iz k∧HV S 3 ⟨stW g',net',asks'⟩ 20006 20007∧S.μ 7=some (Yk g.b,false)∧S.μ 10=some (Yk g'.b,false)∧S.μ 13=some ([.str e.key,Ye e.chain],false)) (fun k=>e.chain.length-k) 0 ?_ ?_
      ·exact⟨GE _,Jiu (by simp only[go_sem,s0]) rfl,Jiu (by simp only[go_sem,s3]) rfl,Jiu (by simp only[go_sem,s7]) rfl,Jiu (by simp only[go_sem,s10]) rfl,Jiu (by simp only[go_sem,s9]) rfl,Jiu (by simp only[go_sem,s89]) rfl,Jiu (by simp only[go_sem,s90]) rfl,Jiu (by simp only[go_sem,s91]) rfl,Jiu (by simp only[go_sem]) rfl,Jiu (by simp only[go_sem,Ye]) rfl,Jiu (by simp only[go_sem]) rfl,Jiu (by simp only[go_sem]) rfl,(hT.set (by simp only[go_sem]) rfl).headn rfl,Jit (by simp only[go_sem,m7',hs1,GC,Gk]) rfl rfl,Jit (by simp only[go_sem,m10',hs2,GC,Gk]) rfl rfl,Jit (by simp only[go_sem,Ye]) rfl rfl⟩
      ·clear s0 s3 s7 s10 s9 s89 s90 s91 hT m7 m10 n13 m7' m10' hm k223;clear S;intro k S ⟨hk,s0,s3,s7,s10,s9,s89,s90,s91,s13,s14,s111,s112,hT,m7,m10,m13⟩;have hm:=hT.1;have m7':=m7;have m10':=m10;simp only[go_sem] at m7' m10' hm;simp only[go_sem,Ye] at m13 s14;cases c6:decide ((k:Int)<(e.chain.length:Int)) with
       |true=>
        have hkl:=Yj c6;obtain⟨v,hv,-⟩:=Jiq hkl;obtain⟨hv2,hkl2⟩:=hpre k v hv;have hink:=inc64q (i:=k) (by omega)
        simp only[go_sem,Ye,s0,s3,s7,s9,s10,s89,s90,s91,s13,s14,s111,s112,hm,m7',m10',m13,c6,hkl,hkl2,hv,hv2,hink,Gj];exact⟨k+1,by omega,by omega,rfl,(hT.set (by simp only[go_sem]) rfl).headn rfl⟩
       |false=>
        simp only[go_sem,s0,s3,s7,s9,s10,s89,s90,s91,s13,s14,s111,s112,hm,m7',m10',m13,c6,hinj];exact⟨j+1,by omega,by omega,rfl,(hT.set (by simp only[go_sem]) rfl).headn rfl⟩
     |false=>
      simp only[go_sem,s0,s3,s7,s9,s10,s89,s90,s91,hm,m7',m10',n13,c5,hinc];have hd:=hT.set (ρ:=upd (upd S.ρ 92 (V.bool false)) 9 (V.int IntKind.i64 ((i+1:Nat):Int))) (A:=S.A) (μ:=upd S.μ 7 (some (Yk g'.b,false))) (by simp only[go_sem]) rfl;simp only[go_sem,hs2,GC,Gk] at hd;exact⟨i+1,by omega,by omega,by omega,Jiu (by simp only[go_sem,s0]) rfl,Jiu (by simp only[go_sem,s3]) rfl,Jiu (by simp only[go_sem,s7]) rfl,Jiu (by simp only[go_sem]) rfl,(Ye4 hd).2.1,(Ye4 hd).2.2,Jis (.inr rfl),Jis (.inr rfl),g',net',asks',(Ye4 hd).1,Jit (by simp only[go_sem,hs2,GC,Gk]) rfl rfl,hw',hn',ha2⟩
end Sg
namespace Sg
open _root_.Go
variable {N : Nat}
theorem YbV {k:IntKind} {x:V} (h:HasN N (.int k) x):∃n,x=.int k n∧(Lit.int k n).wf=true:=by cases h;exact⟨_,rfl,by assumption⟩
theorem YhD {x:V} (h:HasN N .bool x):∃b,x=.bool b:=by cases h;exact⟨_,rfl⟩
theorem YeL {x:V} (h:HasN N .str x):∃s,x=.str s∧s.length≤N:=by cases h;exact⟨_,rfl,by assumption⟩
theorem Yjp {r:List CT} {x:V} (h:HasN N (.slice r) x):∃rows:List (List V),x=.slice r.length rows∧rows.length≤N∧∀row∈rows,Jb0 N r row:=by
 cases h with
 |slice r rows hl hz h=>
  refine⟨rows,rfl,hl,fun row hrow=>?_⟩;obtain⟨i,hi,rfl⟩:=List.getElem_of_mem hrow;have hg:gr rows i=rows[i]:=by simp[gr,hi]
  exact⟨by rw[←hg];exact hz i hi,fun j hj=>by rw[←hg];exact h i j hi hj⟩
theorem YhQ {α:Type} {enc:α→List V} {Q:α→Prop}:∀{rows:List (List V)},(∀row∈rows,∃a,row=enc a∧Q a)→∃l:List α,rows=l.map enc∧∀a∈l,Q a
 |[],_=>⟨[],rfl,fun a ha=>by simp at ha⟩
 |row::rows,h=>by
  obtain⟨a,rfl,ha⟩:=h row (by simp);obtain⟨l,rfl,hl⟩:=YhQ (rows:=rows) (fun r hr=>h r (by simp[hr]));exact⟨a::l,rfl,fun b hb=>by
   rcases GI.1 hb with rfl|hb
   ·exact ha
   ·exact hl b hb⟩
end Sg
namespace Sg
open _root_.Go
abbrev tA18:List CT:=[.int .i64,.int .i64,.int .i64,.int .i64,.int .i64,.int .i64,.int .i64,.str,.str,.bool,.str,.int .i64,.int .i64,.int .i64,.str,.int .i64]
theorem Yk7 {N:Nat} {xs:List V} (h:Jb0 N tA18 xs):∃s,xs=YkM s:=by
 obtain⟨hl,hj⟩:=h
 match xs,hl with
 |[x0,x1,x2,x3,x4,x5,x6,x7,x8,x9,x10,x11,x12,x13,x14,x15],_=>
  obtain⟨y0,h0,-⟩:=YbV (hj 0 (by simp));obtain⟨y1,h1,-⟩:=YbV (hj 1 (by simp));obtain⟨y2,h2,-⟩:=YbV (hj 2 (by simp));obtain⟨y3,h3,-⟩:=YbV (hj 3 (by simp));obtain⟨y4,h4,-⟩:=YbV (hj 4 (by simp));obtain⟨y5,h5,-⟩:=YbV (hj 5 (by simp));obtain⟨y6,h6,-⟩:=YbV (hj 6 (by simp));obtain⟨y7,h7,-⟩:=YeL (hj 7 (by simp));obtain⟨y8,h8,-⟩:=YeL (hj 8 (by simp));obtain⟨y9,h9⟩:=YhD (hj 9 (by simp));obtain⟨y10,h10,-⟩:=YeL (hj 10 (by simp));obtain⟨y11,h11,-⟩:=YbV (hj 11 (by simp));obtain⟨y12,h12,-⟩:=YbV (hj 12 (by simp));obtain⟨y13,h13,-⟩:=YbV (hj 13 (by simp));obtain⟨y14,h14,-⟩:=YeL (hj 14 (by simp));obtain⟨y15,h15,-⟩:=YbV (hj 15 (by simp));simp[gv] at h0 h1 h2 h3 h4 h5 h6 h7 h8 h9 h10 h11 h12 h13 h14 h15;subst h0;subst h1;subst h2;subst h3;subst h4;subst h5;subst h6;subst h7;subst h8;subst h9;subst h10;subst h11;subst h12;subst h13;subst h14;subst h15;exact⟨⟨y0,y1,y2,y3,⟨y4,y5,y6,y7,y8,y9,y10,⟨y11,y12,y13⟩,y14,y15⟩⟩,rfl⟩
theorem YjZ {N:Nat} {x:V} (h:HasN N (.slice tA18) x):∃l,x=YfL l∧l.length≤N:=by
 obtain⟨rows,rfl,hl,hr⟩:=Yjp h;obtain⟨l,rfl,-⟩:=YhQ (enc:=YkM) (Q:=fun _=>True) (fun row hrow=>by obtain⟨v,hv⟩:=Yk7 (hr row hrow);exact⟨v,hv,Gy⟩);exact⟨l,rfl,by simpa using hl⟩
theorem arg_A18s {N:Nat} {x:V} (h:ArgVN N (false,[.slice tA18]) x):∃l,x=YfL l∧l.length≤N:=by
 obtain⟨c,hc,h⟩:=h;simp only[Gax,and_true] at hc;subst hc;exact YjZ h
end Sg
namespace Sg
open _root_.Go _root_.Go.Proofs
theorem t99:H99 (look Qa):=rfl
theorem t398:H398 (look Qa):=rfl
theorem t409:H409 (look Qa):=rfl
theorem t502:H502 (look Qa):=rfl
theorem t487:H487 (look Qa):=⟨rfl,t502⟩
theorem t470:H470 (look Qa):=⟨rfl,t487⟩
theorem t24:H24 (look Qa):=rfl
theorem t469:H469 (look Qa):=⟨rfl,t470,t24⟩
theorem t434:H434 (look Qa):=⟨rfl,t469⟩
theorem t435:H435 (look Qa):=⟨rfl,t470⟩
theorem t495:H495 (look Qa):=rfl
theorem t472:H472 (look Qa):=⟨rfl,t495⟩
theorem t494:H494 (look Qa):=⟨rfl,t470⟩
theorem t471:H471 (look Qa):=⟨rfl,t494⟩
theorem t436:H436 (look Qa):=⟨rfl,t434,t472,t471,t435⟩
theorem t95:H95 (look Qa):=rfl
theorem t96:H96 (look Qa):=⟨rfl,t24⟩
theorem t80:H80 (look Qa):=⟨rfl,t95,t96⟩
theorem t188:H188 (look Qa):=rfl
theorem t189:H189 (look Qa):=rfl
theorem t168:H168 (look Qa):=⟨rfl,t188,t189⟩
theorem t195:H195 (look Qa):=⟨rfl,t188⟩
theorem t187:H187 (look Qa):=⟨rfl,t195⟩
theorem t167:H167 (look Qa):=⟨rfl,t168,t187⟩
theorem t169:H169 (look Qa):=⟨rfl,t187⟩
theorem t142:H142 (look Qa):=⟨rfl,t167,t168,t169⟩
theorem t5:H5 (look Qa):=⟨rfl,t24⟩
theorem t6:H6 (look Qa):=rfl
theorem t4:H4 (look Qa):=⟨rfl,t5,t6⟩
theorem t204:H204 (look Qa):=⟨rfl,t4,t168,t187⟩
theorem t292:H292 (look Qa):=rfl
theorem t293:H293 (look Qa):=⟨rfl,t292⟩
theorem t245:H245 (look Qa):=⟨rfl,t24,t80,t142,t167,t204,t292,t293⟩
theorem t300:H300 (look Qa):=⟨rfl,t6⟩
theorem t246:H246 (look Qa):=⟨rfl,t24,t245,t293,t300⟩
theorem t486:H486 (look Qa):=⟨rfl,t487⟩
theorem t459:H459 (look Qa):=⟨rfl,t486⟩
theorem t460:H460 (look Qa):=⟨rfl,t487⟩
theorem t504:H504 (look Qa):=rfl
theorem t489:H489 (look Qa):=⟨rfl,t504⟩
theorem t503:H503 (look Qa):=⟨rfl,t487⟩
theorem t488:H488 (look Qa):=⟨rfl,t503⟩
theorem t461:H461 (look Qa):=⟨rfl,t459,t489,t488,t460⟩
theorem t424:H424 (look Qa):=⟨rfl,t459,t460,t461⟩
theorem t411:H411 (look Qa):=⟨rfl,t434,t435,t436,t246,t424⟩
theorem t482:H482 (look Qa):=⟨rfl,t99,t398,t409,t411⟩
theorem t454:H454 (look Qa):=⟨rfl,t482⟩
theorem t453:H453 (look Qa):=⟨rfl,t454⟩
theorem t368:H368 (look Qa):=rfl
theorem t63:H63 (look Qa):=rfl
theorem t75:H75 (look Qa):=rfl
theorem t65:H65 (look Qa):=⟨rfl,t75⟩
theorem t64:H64 (look Qa):=⟨rfl,t65⟩
theorem t66:H66 (look Qa):=⟨rfl,t65⟩
theorem t76:H76 (look Qa):=rfl
theorem t67:H67 (look Qa):=⟨rfl,t76⟩
theorem t68:H68 (look Qa):=rfl
theorem t39:H39 (look Qa):=⟨rfl,t63,t64,t65,t66,t67,t68⟩
theorem t505:H505 (look Qa):=rfl
theorem t491:H491 (look Qa):=⟨rfl,t505⟩
theorem t32:H32 (look Qa):=rfl
theorem t28:H28 (look Qa):=⟨rfl,t32⟩
theorem t490:H490 (look Qa):=⟨rfl,t491,t28⟩
theorem t464:H464 (look Qa):=⟨rfl,t490⟩
theorem t465:H465 (look Qa):=⟨rfl,t491⟩
theorem t466:H466 (look Qa):=⟨rfl,t465⟩
theorem t507:H507 (look Qa):=rfl
theorem t493:H493 (look Qa):=⟨rfl,t507⟩
theorem t506:H506 (look Qa):=⟨rfl,t491⟩
theorem t492:H492 (look Qa):=⟨rfl,t506⟩
theorem t467:H467 (look Qa):=⟨rfl,t464,t493,t492,t465,t466⟩
theorem t97:H97 (look Qa):=rfl
theorem t98:H98 (look Qa):=⟨rfl,t28⟩
theorem t81:H81 (look Qa):=⟨rfl,t97,t98⟩
theorem t170:H170 (look Qa):=rfl
theorem t190:H190 (look Qa):=rfl
theorem t192:H192 (look Qa):=⟨rfl,t190⟩
theorem t186:H186 (look Qa):=⟨rfl,t170,t192⟩
theorem t22:H22 (look Qa):=⟨rfl,t28⟩
theorem t31:H31 (look Qa):=rfl
theorem t26:H26 (look Qa):=⟨rfl,t31⟩
theorem t27:H27 (look Qa):=rfl
theorem t15:H15 (look Qa):=⟨rfl,t26,t27⟩
theorem t7:H7 (look Qa):=⟨rfl,t22,t15⟩
theorem t203:H203 (look Qa):=⟨rfl,t7,t170,t192⟩
theorem t313:H313 (look Qa):=rfl
theorem t284:H284 (look Qa):=⟨rfl,t67,t313⟩
theorem t171:H171 (look Qa):=⟨rfl,t186,t170,t192⟩
theorem t298:H298 (look Qa):=⟨rfl,t171⟩
theorem t315:H315 (look Qa):=rfl
theorem t299:H299 (look Qa):=⟨rfl,t315⟩
theorem t244:H244 (look Qa):=⟨rfl,t28,t81,t186,t203,t284,t298,t299⟩
theorem t316:H316 (look Qa):=⟨rfl,t15⟩
theorem t301:H301 (look Qa):=⟨rfl,t299,t316⟩
theorem t249:H249 (look Qa):=⟨rfl,t28,t244,t284,t301⟩
theorem t428:H428 (look Qa):=⟨rfl,t464,t465,t466,t467,t249⟩
theorem t430:H430 (look Qa):=⟨rfl,t428⟩
theorem t40:H40 (look Qa):=⟨rfl,t39,t68⟩
theorem t41:H41 (look Qa):=⟨rfl,t40⟩
theorem t366:H366 (look Qa):=rfl
theorem t367:H367 (look Qa):=rfl
theorem t341:H341 (look Qa):=⟨rfl,t28,t67,t366,t367⟩
theorem t431:H431 (look Qa):=⟨rfl,t341⟩
theorem t468:H468 (look Qa):=rfl
theorem t432:H432 (look Qa):=⟨rfl,t468⟩
theorem t408:H408 (look Qa):=⟨rfl,t368,t39,t430,t41,t431,t432⟩
theorem t462:H462 (look Qa):=rfl
theorem t463:H463 (look Qa):=rfl
theorem t427:H427 (look Qa):=⟨rfl,t462,t463⟩
theorem t73:H73 (look Qa):=⟨rfl,t64,t65⟩
theorem t69:H69 (look Qa):=rfl
theorem t74:H74 (look Qa):=⟨rfl,t73,t63,t68,t69⟩
theorem t71:H71 (look Qa):=rfl
theorem t57:H57 (look Qa):=⟨rfl,t39,t74,t68,t65,t69,t71⟩
theorem t429:H429 (look Qa):=rfl
theorem t496:H496 (look Qa):=rfl
theorem t497:H497 (look Qa):=rfl
theorem t473:H473 (look Qa):=⟨rfl,t463,t496,t497⟩
theorem t437:H437 (look Qa):=⟨rfl,t427,t368,t430,t41,t57,t429,t40,t473⟩
theorem t6413:H6413 (look Qa):=⟨rfl,t408,t341,t437⟩
theorem t72:H72 (look Qa):=⟨rfl,t65,t69⟩
theorem t54:H54 (look Qa):=⟨rfl,t39,t73,t63,t68,t72,t69⟩
theorem t438:H438 (look Qa):=⟨rfl,t427,t54,t41,t473,t429⟩
theorem t439:H439 (look Qa):=rfl
theorem t499:H499 (look Qa):=⟨rfl,t28⟩
theorem t474:H474 (look Qa):=⟨rfl,t499⟩
theorem t285:H285 (look Qa):=⟨rfl,t28,t170,t284⟩
theorem t286:H286 (look Qa):=rfl
theorem t319:H319 (look Qa):=rfl
theorem t320:H320 (look Qa):=rfl
theorem t314:H314 (look Qa):=⟨rfl,t319,t320⟩
theorem t287:H287 (look Qa):=⟨rfl,t314⟩
theorem t288:H288 (look Qa):=rfl
theorem t105:H105 (look Qa):=rfl
theorem t106:H106 (look Qa):=rfl
theorem t100:H100 (look Qa):=⟨rfl,t105,t106⟩
theorem t84:H84 (look Qa):=⟨rfl,t81,t100⟩
theorem t82:H82 (look Qa):=⟨rfl,t81,t97,t84⟩
theorem t102:H102 (look Qa):=rfl
theorem t88:H88 (look Qa):=⟨rfl,t81,t100,t102⟩
theorem t23:H23 (look Qa):=rfl
theorem t3:H3 (look Qa):=⟨rfl,t7,t22,t15,t23⟩
theorem t225:H225 (look Qa):=rfl
theorem t226:H226 (look Qa):=⟨rfl,t192⟩
theorem t220:H220 (look Qa):=⟨rfl,t225,t226⟩
theorem t227:H227 (look Qa):=rfl
theorem t221:H221 (look Qa):=⟨rfl,t23,t227⟩
theorem t200:H200 (look Qa):=⟨rfl,t3,t170,t203,t220,t221⟩
theorem t29:H29 (look Qa):=rfl
theorem t30:H30 (look Qa):=⟨rfl,t15⟩
theorem t25:H25 (look Qa):=⟨rfl,t29,t30⟩
theorem t10:H10 (look Qa):=⟨rfl,t7,t25⟩
theorem t312:H312 (look Qa):=⟨rfl,t10,t203,t220⟩
theorem t290:H290 (look Qa):=⟨rfl,t312⟩
theorem t307:H307 (look Qa):=rfl
theorem t304:H304 (look Qa):=⟨rfl,t307,t314⟩
theorem t289:H289 (look Qa):=⟨rfl,t15,t82,t84,t88,t200,t286,t290,t304⟩
theorem t21:H21 (look Qa):=⟨rfl,t15⟩
theorem t12:H12 (look Qa):=⟨rfl,t10⟩
theorem t206:H206 (look Qa):=⟨rfl,t12,t192,t203,t220⟩
theorem t291:H291 (look Qa):=⟨rfl,t15,t21,t192,t206,t286,t312⟩
theorem t240:H240 (look Qa):=⟨rfl,t28,t171,t249,t284,t285,t286,t287,t288,t289,t290,t291⟩
theorem t456:H456 (look Qa):=rfl
theorem t483:H483 (look Qa):=⟨rfl,t456⟩
theorem t455:H455 (look Qa):=⟨rfl,t483,t28⟩
theorem t421:H421 (look Qa):=⟨rfl,t455⟩
theorem t422:H422 (look Qa):=⟨rfl,t456⟩
theorem t484:H484 (look Qa):=⟨rfl,t456⟩
theorem t457:H457 (look Qa):=⟨rfl,t484⟩
theorem t485:H485 (look Qa):=rfl
theorem t458:H458 (look Qa):=⟨rfl,t485⟩
theorem t423:H423 (look Qa):=⟨rfl,t422,t457,t421,t458⟩
theorem t401:H401 (look Qa):=⟨rfl,t249,t421,t422,t423⟩
theorem t47:H47 (look Qa):=⟨rfl,t39,t68,t41,t71,t72⟩
theorem t442:H442 (look Qa):=⟨rfl,t401,t47,t429,t41,t473⟩
theorem t440:H440 (look Qa):=⟨rfl,t474,t439,t240,t442⟩
theorem t247:H247 (look Qa):=⟨rfl,t249,t284,t287⟩
theorem t500:H500 (look Qa):=⟨rfl,t244,t423⟩
theorem t475:H475 (look Qa):=⟨rfl,t500⟩
theorem t441:H441 (look Qa):=⟨rfl,t247,t475⟩
theorem t261:H261 (look Qa):=⟨rfl,t21,t28,t249⟩
theorem t501:H501 (look Qa):=rfl
theorem t476:H476 (look Qa):=⟨rfl,t501⟩
theorem t477:H477 (look Qa):=rfl
theorem t17:H17 (look Qa):=⟨rfl,t7,t25,t23⟩
theorem t217:H217 (look Qa):=⟨rfl,t17,t203⟩
theorem t262:H262 (look Qa):=⟨rfl,t21,t28,t217,t249,t307⟩
theorem t443:H443 (look Qa):=⟨rfl,t476,t477,t262,t401,t442⟩
theorem t302:H302 (look Qa):=rfl
theorem t303:H303 (look Qa):=rfl
theorem t253:H253 (look Qa):=⟨rfl,t21,t244,t249,t284,t287,t301,t302,t303,t304⟩
theorem t256:H256 (look Qa):=⟨rfl,t247,t284,t304⟩
theorem t258:H258 (look Qa):=⟨rfl,t21,t28,t247,t284,t304⟩
theorem t265:H265 (look Qa):=⟨rfl,t247,t284,t303,t304⟩
theorem t266:H266 (look Qa):=⟨rfl,t247,t284,t302,t304⟩
theorem t308:H308 (look Qa):=⟨rfl,t307,t314⟩
theorem t267:H267 (look Qa):=⟨rfl,t249,t284,t287,t303,t308⟩
theorem t270:H270 (look Qa):=⟨rfl,t247,t284,t303,t304⟩
theorem t271:H271 (look Qa):=⟨rfl,t249,t284,t287,t302,t308⟩
theorem t178:H178 (look Qa):=⟨rfl,t186,t170,t171⟩
theorem t211:H211 (look Qa):=⟨rfl,t203,t220,t221⟩
theorem t309:H309 (look Qa):=rfl
theorem t273:H273 (look Qa):=⟨rfl,t178,t211,t249,t284,t287,t304,t309⟩
theorem t91:H91 (look Qa):=⟨rfl,t81⟩
theorem t213:H213 (look Qa):=⟨rfl,t192,t203,t221⟩
theorem t311:H311 (look Qa):=⟨rfl,t186⟩
theorem t275:H275 (look Qa):=⟨rfl,t21,t91,t213,t217,t249,t284,t287,t304,t308,t309,t311⟩
theorem t478:H478 (look Qa):=⟨rfl,t467,t244⟩
theorem t444:H444 (look Qa):=⟨rfl,t247,t253,t256,t258,t265,t266,t267,t270,t271,t273,t275,t475,t478⟩
theorem t8413:H8413 (look Qa):=⟨t440,t441,t15,t261,t442,t443,t444⟩
theorem t413:H413 (look Qa):=⟨t6413,t438,t427,t40,t439,t41,t428,t8413⟩
theorem t51:H51 (look Qa):=⟨rfl,t41,t72⟩
theorem t407:H407 (look Qa):=⟨rfl,t408,t51,t429⟩
theorem t417:H417 (look Qa):=⟨rfl,t453,t413,t408,t407⟩
theorem t395:H395 (look Qa):=faL rfl (faL rfl (faL rfl (faL rfl (faL rfl (faL rfl (faL rfl (faL rfl (faL rfl (faL rfl (faL rfl (faL rfl (faL rfl (faL rfl (faL rfl (faL rfl (faL rfl (faL rfl (faL rfl (faL rfl (faL rfl (faL rfl (faL rfl (faL rfl (faL rfl (faL rfl (faL rfl (faL rfl (faL rfl (faL rfl (faL rfl (faL rfl (faL rfl (faL rfl (faL rfl (faL rfl (fun _ h=>by cases h))))))))))))))))))))))))))))))))))))
theorem t400:H400 (look Qa):=faL rfl (faL rfl (faL rfl (faL rfl (faL rfl (faL rfl (faL rfl (faL rfl (faL rfl (faL rfl (faL rfl (faL rfl (faL rfl (faL rfl (faL rfl (faL rfl (faL rfl (faL rfl (faL rfl (faL rfl (faL rfl (faL rfl (faL rfl (faL rfl (faL rfl (faL rfl (faL rfl (faL rfl (faL rfl (faL rfl (faL rfl (faL rfl (faL rfl (faL rfl (faL rfl (faL rfl (faL rfl (faL rfl (faL rfl (faL rfl (faL rfl (faL rfl (faL rfl (faL rfl (faL rfl (faL rfl (faL rfl (faL rfl (faL rfl (faL rfl (faL rfl (faL rfl (faL rfl (faL rfl (faL rfl (faL rfl (faL rfl (faL rfl (faL rfl (faL rfl (faL rfl (faL rfl (faL rfl (faL rfl (faL rfl (faL rfl (faL rfl (faL rfl (faL rfl (faL rfl (faL rfl (faL rfl (faL rfl (faL rfl (faL rfl (faL rfl (faL rfl (faL rfl (faL rfl (faL rfl (faL rfl (faL rfl (faL rfl (faL rfl (faL rfl (faL rfl (faL rfl (faL rfl (faL rfl (faL rfl (faL rfl (faL rfl (faL rfl (faL rfl (faL rfl (faL rfl (faL rfl (faL rfl (faL rfl (faL rfl (faL rfl (faL rfl (faL rfl (faL rfl (faL rfl (faL rfl (faL rfl (faL rfl (faL rfl (faL rfl (faL rfl (faL rfl (faL rfl (faL rfl (faL rfl (faL rfl (faL rfl (faL rfl (fun _ h=>by cases h))))))))))))))))))))))))))))))))))))))))))))))))))))))))))))))))))))))))))))))))))))))))))))))))))))))))))))))))))))))
theorem t406:H406 (look Qa):=⟨rfl,t427,t408,t40,t428⟩
theorem t223:H223 (look Qa):=rfl
theorem t418:H418 (look Qa):=⟨rfl,t417,t395,t400,t406,t223⟩
theorem all_ctr (f:Nat) (args:List V) (r:V) (h:K' (look Qa) f args=some r):Ctr Tryz.prog (cxU Qd) (ownOf (look Qa) f) f args r:=by
 obtain⟨n,hn⟩:=K'_iff.1 h;refine tab_sound (by kernel_rfl) okAll (fun f own p hp=>?_) (fun f z p hlt hp=>?_) (fun f z p hp=>?_) n f args r hn
 ·have hm:=look_mem hp;simp only[Qa,List.mem_cons,Prod.mk.injEq,reduceCtorEq,and_false,false_and,false_or,Fn.prim.injEq,Option.some.injEq,List.not_mem_nil,or_false] at hm;rcases hm with ⟨rfl,hz,rfl⟩|⟨rfl,hz,rfl⟩|⟨rfl,hz,rfl⟩|⟨rfl,hz,rfl⟩|⟨rfl,hz,rfl⟩|⟨rfl,hz,rfl⟩|⟨rfl,hz,rfl⟩|⟨rfl,hz,rfl⟩|⟨rfl,hz,rfl⟩|⟨rfl,hz,rfl⟩|⟨rfl,hz,rfl⟩|⟨rfl,hz,rfl⟩|⟨rfl,hz,rfl⟩
  ·subst hz;exact clone_ctr (zero:=[.int .i64 0]) (by kernel_rfl) okClone69
  ·subst hz;exact clone_ctr (zero:=[.int .i64 0,.int .i64 0,.int .i64 0,.slice 1 [],.int .i64 0,.str [],.str [],.slice 1 [],.slice 36 []]) (by kernel_rfl) okClone497
  ·intro args r h;simp[noQ] at h
  ·subst hz;exact clone_ctr (zero:=[.int .i64 0,.int .i64 0,.str [],.str [],.int .i64 0,.slice 2 [],.int .i64 0,.int .i64 0,.int .i64 0,.int .i64 0,.int .i64 0,.int .i64 0,.slice 11 [],.int .i64 0,.int .i64 0,.int .i64 0,.int .i64 0]) (by kernel_rfl) okClone307
  ·subst hz;exact keyCt _ 170 rfl
  ·intro args r h;simp[noQ] at h
  ·intro args r h;simp[noQ] at h
  ·subst hz;exact decCt _ 190 rfl
  ·intro args r h;simp[noQ] at h
  ·subst hz;exact clone_ctr (zero:=[.int .i64 0,.int .i64 0,.int .i64 0,.int .i64 0,.int .i64 0,.int .i64 0,.bool false,.str [],.slice 2 [],.str [],.bool false]) (by kernel_rfl) okClone102
  ·intro args r h;simp[noQ] at h
  ·subst hz;exact clone_ctr (zero:=[.int .i64 0,.int .i64 0,.int .i64 0,.bool false,.str []]) (by kernel_rfl) okClone23
  ·subst hz;exact clone_ctr (zero:=[.str [],.slice 5 []]) (by kernel_rfl) okClone227
 ·have hm:=look_mem hp;simp only[Qa,List.mem_cons,Prod.mk.injEq,reduceCtorEq,and_false,false_and,false_or,Fn.prim.injEq,Option.some.injEq,List.not_mem_nil,or_false] at hm;rcases hm with ⟨rfl,hz,rfl⟩|⟨rfl,hz,rfl⟩|⟨rfl,hz,rfl⟩|⟨rfl,hz,rfl⟩|⟨rfl,hz,rfl⟩|⟨rfl,hz,rfl⟩|⟨rfl,hz,rfl⟩|⟨rfl,hz,rfl⟩|⟨rfl,hz,rfl⟩|⟨rfl,hz,rfl⟩|⟨rfl,hz,rfl⟩
  ·omega
  ·omega
  ·obtain rfl:z=9:=by omega
   exact⟨_,_,insC220⟩
  ·omega
  ·obtain rfl:z=17:=by omega
   exact⟨_,_,insC284⟩
  ·omega
  ·obtain rfl:z=2:=by omega
   exact⟨_,_,insC300⟩
  ·omega
  ·obtain rfl:z=11:=by omega
   exact⟨_,_,insC302⟩
  ·omega
  ·omega
 ·have hm:=look_mem hp;simp only[Qa,List.mem_cons,Prod.mk.injEq,reduceCtorEq,and_false,false_and,false_or,Fn.prim.injEq,Option.some.injEq,List.not_mem_nil,or_false] at hm;rcases hm with ⟨rfl,hz,rfl⟩|⟨rfl,hz,rfl⟩|⟨rfl,hz,rfl⟩|⟨rfl,hz,rfl⟩|⟨rfl,hz,rfl⟩|⟨rfl,hz,rfl⟩|⟨rfl,hz,rfl⟩|⟨rfl,hz,rfl⟩|⟨rfl,hz,rfl⟩|⟨rfl,hz,rfl⟩|⟨rfl,hz,rfl⟩
  ·omega
  ·omega
  ·omega
  ·omega
  ·omega
  ·obtain rfl:z=17:=by omega
   exact delC285
  ·omega
  ·omega
  ·omega
  ·omega
  ·omega
end Sg
namespace Go.Proofs.YtofkbkonceifeaaGreatDoor
open Sg Go.RowKit
set_option maxRecDepth 100000
theorem own:ownKnob Tryz.prog.godebug=none:=by kernel_rfl
theorem laid:laidOutB Tryz.prog=true:=by kernel_rfl
theorem storeOrder_ctr (xs:List V) (h:ArgsV [(false,[.slice tA18])] xs):Ctr Tryz.prog (cxU Qd) (ownOf (Sg.look Qa) 418) 418 xs (.bool true):=by
 match xs,h with
 |[x0],h=>
  obtain⟨h0,-⟩:=h;obtain⟨a0,rfl,l0⟩:=arg_A18s h0;exact all_ctr _ _ _ (K418 t418 a0)
noncomputable def laidWorld (os:Os):World:=
 let w0:=World.holding Tryz.prog os ⟨#[],#[],[]⟩
 let put (h:Array Obj) (g:Nat) (cs:Array Value):Array Obj:=h.modify g fun
  |.cells _ t frozen=>.cells cs t frozen
  |o=>o
 let h1:=put w0.heap 0 (Lib.firstTab.map fun z=>Value.int .u8 z).toArray
 let h2:=put h1 1 ((List.range 16).flatMap fun i=>[Value.int .u8 (Lib.accLo i),Value.int .u8 (Lib.accHi i)]).toArray
 {w0 with heap:=h2}
theorem tabs_of {W:World} (hL:laidMetH Tryz.prog Rows.storeOrderRow.laid W):Lib.Utf8Tabs 0 1 W:=
 utf8Tabs_of_reads (ρ:=renU) {lays197 with} ⟨by kernel_rfl,by kernel_rfl,by kernel_rfl,by kernel_rfl,by kernel_rfl,by kernel_rfl,by kernel_rfl⟩
  ((show Go.Pinned.utf8First=Lib.firstData by kernel_rfl)▸Lib.laidMet.reads hL (.tail _ (.head _))) ((show Rows.laid_unicode_utf8_acceptRanges=Lib.acceptData by kernel_rfl)▸Lib.laidMet.reads hL (.head _))
theorem size_of {W:World} (h:Lib.Utf8Tabs 0 1 W):2≤W.heap.size:=by
 have lt:∀g o v,W.cell? ⟨g,o,none⟩=some v→g<W.heap.size:=fun g o v e=>by
  rcases Nat.lt_or_ge g W.heap.size with h|h
  ·exact h
  ·simp[World.cell?,Array.getElem?_eq_none h] at e
 have h1:=lt _ _ _ (h.1 0 (by decide));have h2:=lt _ _ _ (h.2 0 (by decide)).1;omega
theorem laid_met (os:Os) (args:Array Value):laidMet Tryz.prog Rows.storeOrderRow.laid ((laidWorld os).forCall (fun _ _=>0) ⟨#[],args,[]⟩).memory:=
 (LaidIn.of_run (l:=Rows.storeOrderRow.laid) [1,0] 8 (by kernel_rfl) (by kernel_rfl) (by kernel_rfl) (by kernel_rfl)).met
abbrev storeOrder_wits:Array Value:=#[Value.slice none 0 0]
set_option maxRecDepth 100000 in
theorem storeOrder_reads (os:Os) {H:Type} (enc:TypeId×Value→H) :
  (OpenSpec.ofChange Rows.storeOrderSpec).preRow enc Tryz.prog Tryz.f7 Rows.storeOrderRow.domain false Rows.storeOrderRow.laid ((laidWorld os).forCall (fun _ _=>0) ⟨#[],storeOrder_wits,[]⟩).memory storeOrder_wits:=by
 have hw:(DataW.whole enc Tryz.prog ((laidWorld os).forCall (fun _ _=>0) ⟨#[],storeOrder_wits,[]⟩).memory Tryz.f7.params.toList Rows.storeOrderSpec.vars false storeOrder_wits.toList 8).isSome=true:=by kernel_rfl
 obtain⟨⟨x1,x2,x3⟩,hx⟩:=Option.isSome_iff_exists.1 hw
 have hl:x1.length=1:=by
  have:=congrArg (Option.map fun x=>x.1.length) hx;have e:(DataW.whole enc Tryz.prog ((laidWorld os).forCall (fun _ _=>0) ⟨#[],storeOrder_wits,[]⟩).memory Tryz.f7.params.toList Rows.storeOrderSpec.vars false storeOrder_wits.toList 8).map (fun x=>x.1.length)=some 1:=by kernel_rfl
  rw[hx] at e;simpa using e
 exact OpenSpec.preRow_of_cond 8 hx (by kernel_rfl) (fun k hk=>by cases hk) (by kernel_rfl) (laid_met os _)
theorem storeOrder_lifted (os:Os) (started:os.Started) (H:Type) (enc:TypeId×Value→H) (F:Stop.Interp) :
  ReturnsInHanded {} Tryz.checked os 7 .any ((OpenSpec.ofChange Rows.storeOrderSpec).preRow enc Tryz.prog Tryz.f7 Rows.storeOrderRow.domain false Rows.storeOrderRow.laid) (((OpenSpec.ofChange Rows.storeOrderSpec).at F).post enc Tryz.prog Tryz.f7 false true false false):=by
 refine returnsInHanded_of_row (C:=Tryz.checked) (s:=OpenSpec.ofChange Rows.storeOrderSpec) own started (by kernel_rfl) Tryz.func7
  (witness_row_at (enc:=enc) (C:=Tryz.checked) false (laidWorld os) storeOrder_wits rfl (by kernel_rfl) (by kernel_rfl) (by kernel_rfl) (storeOrder_reads os enc)) ?_
 intro W base args ds gs before hval hW _ _ _ hL _ _
 have hT:=tabs_of hL
 exact lift (s:=Rows.storeOrderSpec) (conds:=[]) (cx:=cxU Qd) (own:=ownOf (Sg.look Qa) 418) (fid:=418) (ss:=[(false,[.slice tA18])]) (tb:=4) (by kernel_rfl) (by kernel_rfl) (by kernel_rfl) laid rfl (by kernel_rfl) (by kernel_rfl)
  (fun ds h=>by
   have h2:Tryz.f7.params.toList.length=1:=by kernel_rfl
   rw[h2] at h
   match ds,h with
   |[d0],_=>rfl) storeOrder_ctr W (size_of hT) hT base args ds gs before hval hW
theorem storeOrder_said:Rows.StoreOrderSaid:=
 OpenClaim.holds_of_cond 7 Tryz.f7 rfl rfl rfl rfl rfl rfl rfl ⟨rfl,rfl,rfl,rfl,rfl⟩ rfl rfl rfl rfl rfl (by kernel_rfl) Tryz.func7 facts
  (of_decide_eq_true (by kernel_rfl)) (by unfold Func.isWrapper;first|(rw[if_pos (by decide +kernel)];kernel_rfl)|(rw[if_neg (by decide +kernel)];exact⟨rfl,rfl⟩))
  (fun os started H enc _ F=>by rw[OpenClaim.pre_eq_preRow];exact storeOrder_lifted os started H enc F)
theorem storeOrder_plain (f:FuncId) (fn:Func) (hf:Tryz.pinned.checked.prog.funcNamed "stratigraph/stratigraphlaw18.StoreOrder"=some f) (hfn:Tryz.pinned.checked.prog.funcs[f]?=some fn) :
  false=Tryz.pinned.checked.prog.looks []∧∀(j:Nat) t,fn.params[j]?=some t→Tryz.pinned.checked.prog.wantsStandIn t=false:=by
 obtain rfl:f=7:=Option.some.inj ((show Tryz.prog.funcNamed "stratigraph/stratigraphlaw18.StoreOrder"=some 7 by kernel_rfl).symm.trans hf) |>.symm
 obtain rfl:fn=Tryz.f7:=(Option.some.inj (Tryz.func7.symm.trans hfn)).symm
 refine⟨by kernel_rfl,fun j t ht=>?_⟩
 rw[Tryz.params7] at ht
 have hm:=Array.mem_of_getElem? ht
 simp only[List.mem_toArray,List.mem_cons,List.not_mem_nil,or_false] at hm
 obtain rfl:=hm
 exact (show Tryz.prog.wantsStandIn 79=false by kernel_rfl)
theorem storeOrder_holds:Rows.StoreOrderCardSaid:=
 Claim7.holds_tied_plain_at .later [] _ _ _ _ storeOrder_said (fun _ h=>by cases h) (by kernel_rfl) (fun _ h=>by cases h) storeOrder_row_tie rfl ⟨rfl,rfl⟩ (by kernel_rfl) rfl storeOrder_plain (by kernel_rfl)
end Go.Proofs.YtofkbkonceifeaaGreatDoor
