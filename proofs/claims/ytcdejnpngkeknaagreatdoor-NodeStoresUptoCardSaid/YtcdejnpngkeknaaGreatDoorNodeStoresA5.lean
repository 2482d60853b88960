/- NodeStores, wherever what it reads is of bulk at most 1048576: proved over a checked abstract run of the translated code; no condition but that. A part. -/
import Derived.KernelRfl
import Derived.Test.YtcdejnpngkeknaaGreatDoorNodeStoresA4
set_option linter.unusedSimpArgs false
set_option linter.unusedVariables false
set_option linter.constructorNameAsVariable false
set_option linter.defProp false
set_option maxRecDepth 100000
namespace Sg
open _root_.Go (IntKind BinOp UnOp)
variable {Pg:PgT}
theorem fP {T:Nat->Option Fn} (h:∀f x,T f=some x->Pg f=some x\/∃o p,x=.prim o p/\∀a r,p a=some r->K' Pg f a=some r):∀n,Le (Jn T n) (K' Pg)
 |0=>fun f a r h=>by simp[Jn] at h
 |n+1=>fun f a r hr=>by
  have ih:=fP h n;rw[Jn] at hr;split at hr
  ·simp at hr
  ·rename_i o p hT;rcases h _ _ hT with h1|⟨o',p',e,h1⟩
   ·rw[xd h1];exact hr
   ·cases e;exact h1 _ _ hr
  ·rename_i F k hT;rcases h _ _ hT with h1|⟨o',p',e,-⟩
   ·split at hr<;>try (simp at hr;done)
    rename_i hl;split at hr<;>try (simp at hr;done)
    rename_i cs hk;simp only[Gc] at hr;obtain⟨S0,h0,⟨ex,S'⟩,h2,h3⟩:=hr;refine fq h1 hl hk h0 ⟨n,ex,S',Jr ih (Gt n) h2,?_⟩;cases ex<;>first|exact⟨.inl rfl,h3⟩|exact⟨.inr rfl,h3⟩|cases h3
   ·cases e
  ·rename_i F hT;rcases h _ _ hT with h1|⟨o',p',e,-⟩
   ·split at hr<;>try (simp at hr;done)
    rename_i hl;simp only[Gc] at hr;obtain⟨⟨ex,S'⟩,h2,h3⟩:=hr;refine aA h1 hl ⟨n,ex,S',Jr ih (Gt n) h2,?_⟩;cases ex<;>first|exact⟨.inl rfl,h3⟩|exact⟨.inr rfl,h3⟩|cases h3
   ·cases e
def DE:List UInt8:=[78,1,2,1,1,2,1,2,1,22,0,0,0,0,1,1,1,1,0,0,0,0,0,0,0,0,0,0,0,0,0,0,22,0,0,0,0,1,1,1,1,0,0,0,0,0,0,0,0,0,0,0,0,0,0,2,1,2,0,3,1,2,3,1,1,5,0,0,0,0,0,5,0,0,0,0,0,0,0]
def DF:List UInt8:=[130,1,1,2,1,1,2,1,2,2,22,0,0,0,0,1,1,1,1,0,0,0,0,0,0,0,0,0,0,0,0,0,0,38,5,0,1,0,1,1,1,1,0,0,0,0,0,0,0,0,0,0,0,0,1,1,97,1,5,0,1,0,0,1,1,1,0,5,0,1,0,0,1,1,1,36,2,1,11,0,0,0,0,1,0,0,0,0,0,1,1,0,0,0,0,0,0,0,0,0,0,0,5,0,1,0,0,0,0,0,0,0,3,1,2,3,1,1,5,0,0,0,0,0,5,0,0,0,0,0,0,0]
def vT (n:Nat) (o:Option V):Bool:=match o with
 |some (.int .u32 m)=>decide (m=n)
 |_=>false
def De {n:Nat} {o:Option V} (h:vT n o=true):o=some (.int .u32 n):=by
 unfold vT at h;split at h
 ·rw[Gk h]
 ·cases h
def OZ:vT 766881932 (Jn (jc [(586,.code F586)]) 300 586 [.str DE])=true:=by decide +kernel
def O0:vT 1143949692 (Jn (jc [(586,.code F586)]) 300 586 [.str DF])=true:=by decide +kernel
def zH:List V->Option V
 |[.str s]=>if s=DE then some (.int .u32 766881932) else if s=DF then some (.int .u32 1143949692) else none
 |_=>none
def P1:List (Nat×Fn):=[(511,.code F511),(512,.code F512),(522,.code F522),(523,.code F523),(524,.code F524),(525,.code F525),(408,.code F408),(526,.codeR F422 0),(527,.codeR F527 0),(528,.codeR F457 0),(529,.code F529),(530,.codeR F530 0),(531,.codeR F531 0),(532,.codeR F532 0),(485,.code F485),(539,.codeR F539 0),(540,.codeR F540 0),(395,.code F395),(552,.code F552),(554,.code F554),(555,.code F555),(556,.code F556),(557,.code F557),(558,.code F558),(560,.code F560),(561,.code F561),(562,.code F562),(563,.code F563),(564,.code F564),(368,.code F368),(39,.code F39),(430,.code F430),(41,.code F41),(431,.code F431),(432,.code F432),(456,.code F456),(484,.code F484),(341,.code F341),(422,.codeR F422 0),(421,.codeR F421 0),(457,.codeR F457 0),(458,.codeR F458 0),(491,.code F491),(565,.codeR F565 0),(28,.code F28),(455,.code F455),(506,.code F506),(567,.codeR F567 0),(507,.code F507),(490,.code F490),(345,.code F345),(397,.code F397),(401,.code F401),(43,.code F43),(570,.code F570),(571,.code F571),(572,.code F572),(573,.code F573),(574,.code F574),(413,.code F413),(577,.code F577),(578,.code F578),(63,.code F63),(64,.code F64),(65,.code F65),(66,.code F66),(67,.code F67),(68,.code F68),(428,.code F428),(40,.code F40),(468,.code F468),(366,.code F366),(367,.code F367),(465,.codeR F465 0),(464,.codeR F464 0),(492,.codeR F492 0),(493,.codeR F493 0),(466,.codeR F466 0),(32,.code F32),(483,.code F483),(249,.code F249),(423,.codeR F423 0),(580,.code F580),(581,.code F581),(582,.code F582),(583,.code F583),(427,.code F427),(439,.code F439),(440,.code F440),(15,.code F15),(442,.code F442),(585,.code F585),(75,.code F75),(76,.code F76),(467,.codeR F467 0),(186,.code F186),(244,.code F244),(301,.code F301),(284,.code F284),(429,.code F429),(473,.code F473),(462,.code F462),(463,.code F463),(474,.code F474),(240,.code F240),(26,.code F26),(27,.code F27),(47,.code F47),(587,.code F587),(192,.code F192),(203,.code F203),(81,.code F81),(298,.code F298),(299,.code F299),(316,.code F316),(313,.code F313),(71,.code F71),(496,.code F496),(72,.code F72),(499,.code F499),(285,.code F285),(287,.code F287),(171,.code F171),(288,.code F288),(289,.code F289),(290,.code F290),(31,.code F31),(304,.code F304),(7,.code F7),(97,.code F97),(98,.code F98),(315,.code F315),(314,.code F314),(82,.code F82),(84,.code F84),(200,.code F200),(88,.code F88),(312,.code F312),(220,.code F220),(221,.code F221),(22,.code F22),(319,.code F319),(320,.code F320),(100,.code F100),(3,.code F3),(225,.code F225),(106,.code F106),(69,.prim (some 0) (cQ 1)),(170,.prim none jk),(497,.prim (some 0) (cQ 9)),(307,.prim (some 0) (cQ 17)),(102,.prim (some 0) (cQ 11)),(23,.prim (some 0) (cQ 5)),(227,.prim (some 0) (cQ 2))]
def zK:V:=.agg [.int .i64 1,.str [78,1,2,1,1,2,1,2,1,22,0,0,0,0,1,1,1,1,0,0,0,0,0,0,0,0,0,0,0,0,0,0,22,0,0,0,0,1,1,1,1,0,0,0,0,0,0,0,0,0,0,0,0,0,0,2,1,2,0,3,1,2,3,1,1,5,0,0,0,0,0,5,0,0,0,0,0,0,0,140,176,181,45],.str [],.int .i64 0,.bool false,.bool false,.int .i64 1,.slice 9 [[.int .i64 1,.int .i64 1,.int .i64 1,.slice 1 [[.int .i64 1],[.int .i64 2]],.int .i64 1,.str [0,0,0,0,1,1,1,1,0,0,0,0,0,0,0,0,0,0,0,0,0,0],.str [0,0,0,0,1,1,1,1,0,0,0,0,0,0,0,0,0,0,0,0,0,0],.slice 1 [[.int .i64 1],[.int .i64 2]],.slice 36 []],[.int .i64 3,.int .i64 1,.int .i64 1,.slice 1 [[.int .i64 3],[.int .i64 1]],.int .i64 1,.str [0,0,0,0,0],.str [0,0,0,0,0],.slice 1 [],.slice 36 []]],.slice 5 [],.slice 3 [],.int .i64 0,.slice 5 [],.slice 3 [],.int .i64 0,.int .i64 0,.int .i64 0,.int .i64 0,.int .i64 0,.int .i64 0,.int .i64 0,.int .i64 0,.int .i64 0,.int .i64 0,.int .i64 0,.str [],.slice 1 [],.int .i64 0,.int .i64 0,.int .i64 0,.str [],.str [],.slice 1 [],.int .i64 0,.int .i64 0,.int .i64 0,.slice 1 [],.slice 7 [],.bool true]
def zI:V:=.agg [.int .i64 1,.str [78,1,2,1,1,2,1,2,1,22,0,0,0,0,1,1,1,1,0,0,0,0,0,0,0,0,0,0,0,0,0,0,22,0,0,0,0,1,1,1,1,0,0,0,0,0,0,0,0,0,0,0,0,0,0,2,1,2,0,3,1,2,3,1,1,5,0,0,0,0,0,5,0,0,0,0,0,0,0,140,176,181,45],.str [],.int .i64 1,.bool true,.bool false,.int .i64 1,.slice 9 [[.int .i64 1,.int .i64 1,.int .i64 1,.slice 1 [[.int .i64 1],[.int .i64 2]],.int .i64 1,.str [0,0,0,0,1,1,1,1,0,0,0,0,0,0,0,0,0,0,0,0,0,0],.str [0,0,0,0,1,1,1,1,0,0,0,0,0,0,0,0,0,0,0,0,0,0],.slice 1 [[.int .i64 1],[.int .i64 2]],.slice 36 []],[.int .i64 3,.int .i64 1,.int .i64 1,.slice 1 [[.int .i64 3],[.int .i64 1]],.int .i64 1,.str [0,0,0,0,0],.str [0,0,0,0,0],.slice 1 [],.slice 36 []]],.slice 5 [],.slice 3 [],.int .i64 0,.slice 5 [],.slice 3 [],.int .i64 0,.int .i64 0,.int .i64 0,.int .i64 0,.int .i64 0,.int .i64 0,.int .i64 0,.int .i64 0,.int .i64 0,.int .i64 0,.int .i64 0,.str [],.slice 1 [],.int .i64 0,.int .i64 0,.int .i64 0,.str [],.str [],.slice 1 [],.int .i64 0,.int .i64 0,.int .i64 0,.slice 1 [],.slice 7 [],.bool true]
def zJ:V:=.agg [.int .i64 1,.str [78,1,2,1,1,2,1,2,1,22,0,0,0,0,1,1,1,1,0,0,0,0,0,0,0,0,0,0,0,0,0,0,22,0,0,0,0,1,1,1,1,0,0,0,0,0,0,0,0,0,0,0,0,0,0,2,1,2,0,3,1,2,3,1,1,5,0,0,0,0,0,5,0,0,0,0,0,0,0,140,176,181,45],.str [130,1,1,2,1,1,2,1,2,2,22,0,0,0,0,1,1,1,1,0,0,0,0,0,0,0,0,0,0,0,0,0,0,38,5,0,1,0,1,1,1,1,0,0,0,0,0,0,0,0,0,0,0,0,1,1,97,1,5,0,1,0,0,1,1,1,0,5,0,1,0,0,1,1,1,36,2,1,11,0,0,0,0,1,0,0,0,0,0,1,1,0,0,0,0,0,0,0,0,0,0,0,5,0,1,0,0,0,0,0,0,0,3,1,2,3,1,1,5,0,0,0,0,0,5,0,0,0,0,0,0,0,124,73,47,68],.int .i64 0,.bool true,.bool true,.int .i64 1,.slice 9 [[.int .i64 1,.int .i64 1,.int .i64 1,.slice 1 [[.int .i64 1],[.int .i64 2]],.int .i64 1,.str [0,0,0,0,1,1,1,1,0,0,0,0,0,0,0,0,0,0,0,0,0,0],.str [0,0,0,0,1,1,1,1,0,0,0,0,0,0,0,0,0,0,0,0,0,0],.slice 1 [[.int .i64 1],[.int .i64 2]],.slice 36 []],[.int .i64 3,.int .i64 1,.int .i64 1,.slice 1 [[.int .i64 3],[.int .i64 1]],.int .i64 1,.str [0,0,0,0,0],.str [0,0,0,0,0],.slice 1 [],.slice 36 []]],.slice 5 [],.slice 3 [],.int .i64 0,.slice 5 [],.slice 3 [],.int .i64 0,.int .i64 0,.int .i64 0,.int .i64 0,.int .i64 0,.int .i64 0,.int .i64 0,.int .i64 0,.int .i64 0,.int .i64 0,.int .i64 0,.str [],.slice 1 [],.int .i64 0,.int .i64 0,.int .i64 0,.str [],.str [],.slice 1 [],.int .i64 0,.int .i64 0,.int .i64 0,.slice 1 [],.slice 7 [],.bool false]
def Dz:V:=.agg [.int .i64 1,.str [78,1,2,1,1,2,1,2,1,22,0,0,0,0,1,1,1,1,0,0,0,0,0,0,0,0,0,0,0,0,0,0,22,0,0,0,0,1,1,1,1,0,0,0,0,0,0,0,0,0,0,0,0,0,0,2,1,2,0,3,1,2,3,1,1,5,0,0,0,0,0,5,0,0,0,0,0,0,0,140,176,181,45],.str [],.int .i64 0,.bool false,.bool false,.int .i64 1,.slice 9 [[.int .i64 1,.int .i64 1,.int .i64 1,.slice 1 [[.int .i64 1],[.int .i64 2]],.int .i64 1,.str [0,0,0,0,1,1,1,1,0,0,0,0,0,0,0,0,0,0,0,0,0,0],.str [0,0,0,0,1,1,1,1,0,0,0,0,0,0,0,0,0,0,0,0,0,0],.slice 1 [[.int .i64 1],[.int .i64 2]],.slice 36 []],[.int .i64 3,.int .i64 1,.int .i64 1,.slice 1 [[.int .i64 3],[.int .i64 1]],.int .i64 1,.str [0,0,0,0,0],.str [0,0,0,0,0],.slice 1 [],.slice 36 []]],.slice 5 [],.slice 3 [],.int .i64 0,.slice 5 [],.slice 3 [],.int .i64 0,.int .i64 0,.int .i64 0,.int .i64 0,.int .i64 0,.int .i64 0,.int .i64 0,.int .i64 0,.int .i64 0,.int .i64 0,.int .i64 0,.str [],.slice 1 [],.int .i64 0,.int .i64 0,.int .i64 0,.str [],.str [],.slice 1 [],.int .i64 0,.int .i64 0,.int .i64 0,.slice 1 [],.slice 7 [],.bool true]
def Dy:V:=.agg [.int .i64 1,.int .i64 11,.int .i64 1,.int .i64 1,.int .i64 1,.int .i64 0,.int .i64 0,.int .i64 1,.int .i64 0,.int .i64 0,.int .i64 0,.int .i64 0,.str [],.int .i64 1,.int .i64 1,.int .i64 1,.str [97],.str [],.bool false,.str [],.int .i64 0,.int .i64 0,.int .i64 0,.str [],.int .i64 0,.int .i64 0,.int .i64 0,.int .i64 0,.int .i64 0,.bool false,.str [],.slice 2 [],.str [],.bool false,.slice 5 [],.slice 1 []]
def pi:List (Nat×Fn):=(586,.prim none zH)::P1
def PG:Jn (jc pi) 1200 524 [zI,.int .i64 5,Dy]=some (.tuple [zJ,.slice 36 [],.int .i64 16]):=by kernel_rfl
end Sg
