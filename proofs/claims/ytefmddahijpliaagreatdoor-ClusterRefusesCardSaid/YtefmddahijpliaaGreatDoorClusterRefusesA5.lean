/- ClusterRefuses, at every input: proved over a checked abstract run of the translated code; no condition. A part. -/
import Derived.Test.YtefmddahijpliaaGreatDoorChecked
import Derived.KernelRfl
import Derived.Test.YtefmddahijpliaaGreatDoorClusterRefusesA4
set_option linter.unusedSimpArgs false
set_option linter.unusedVariables false
set_option linter.constructorNameAsVariable false
set_option linter.defProp false
set_option maxRecDepth 1000000
set_option maxHeartbeats 16000000
namespace Sg
open Go.Proofs
open _root_.Go
def noQ:List V→Option V:=fun _=>none
def cluFm:List (Nat×Nat):=[(588,3),(589,4),(590,5),(591,6),(592,7),(593,9),(605,8),(720,10),(594,11),(595,12),(596,13),(599,18),(600,19),(601,20),(721,21),(603,22),(604,27),(606,24),(607,23),(608,25),(609,26),(327,28),(395,29),(722,31),(553,270),(554,339),(555,30),(144,32),(610,33),(611,35),(501,34),(612,38),(613,39),(614,40),(615,42),(616,41),(617,43),(618,44),(619,45),(723,46),(724,47),(620,48),(558,50),(331,51),(725,52),(396,58),(622,60),(623,59),(399,53),(332,54),(153,55),(536,57),(624,56),(154,61),(345,62),(397,64),(401,63),(43,65),(516,273),(511,342),(570,66),(571,67),(572,68),(141,69),(171,36),(406,71),(625,73),(463,72),(40,74),(626,77),(627,78),(628,80),(529,79),(629,81),(630,82),(726,83),(556,84),(557,85),(563,87),(564,86),(517,88),(512,89),(585,90),(566,91),(632,92),(727,93),(328,94),(352,95),(348,96),(65,97),(159,98),(156,99),(157,100),(148,101),(575,102),(728,103),(402,117),(44,116),(518,119),(513,120),(633,118),(45,104),(360,105),(353,106),(116,107),(354,108),(460,112),(459,113),(488,114),(489,115),(503,109),(634,111),(635,110),(368,121),(249,122),(421,123),(422,124),(423,125),(68,126),(39,127),(526,276),(528,277),(527,278),(485,215),(537,279),(538,280),(408,140),(484,129),(580,128),(581,130),(582,131),(162,132),(163,133),(164,135),(165,134),(166,136),(191,138),(186,75),(192,76),(427,139),(428,141),(636,145),(285,146),(341,142),(457,143),(458,144),(637,147),(638,148),(729,272),(730,341),(562,149),(573,150),(574,151),(577,152),(578,153),(579,154),(531,155),(539,156),(530,157),(540,158),(541,159),(542,160),(543,161),(532,162),(491,163),(587,164),(465,165),(464,166),(492,167),(493,168),(466,169),(731,271),(732,340),(126,171),(28,172),(346,173),(347,174),(75,175),(177,176),(175,177),(178,178),(584,181),(424,189),(61,187),(62,188),(533,191),(535,192),(534,193),(504,186),(544,194),(641,190),(70,182),(372,183),(487,184),(486,185),(244,195),(301,196),(284,197),(455,198),(456,199),(63,200),(64,201),(66,203),(67,202),(430,208),(41,209),(431,211),(432,210),(586,204),(185,205),(462,207),(467,212),(642,216),(366,213),(367,214),(335,275),(407,344),(583,217),(506,218),(567,219),(565,220),(507,221),(568,222),(490,223),(569,224),(505,225),(340,274),(413,343),(32,226),(369,227),(194,228),(461,233),(101,231),(502,232),(203,234),(81,235),(298,237),(299,236),(316,238),(313,240),(483,241),(76,242),(468,243),(112,289),(355,288),(113,290),(356,291),(15,239),(357,281),(51,355),(429,354),(121,282),(361,283),(362,284),(363,285),(364,286),(365,287),(437,345),(438,346),(439,347),(440,348),(441,349),(261,351),(442,350),(443,352),(444,353),(7,245),(97,246),(98,247),(315,248),(370,305),(371,306),(131,307),(26,250),(27,249),(72,378),(133,292),(21,296),(109,297),(375,299),(376,300),(377,301),(379,303),(381,304),(57,356),(473,357),(54,358),(474,359),(240,360),(247,361),(475,362),(47,363),(476,364),(477,365),(262,366),(256,367),(258,368),(265,369),(478,370),(253,371),(266,372),(267,373),(270,374),(271,375),(273,376),(275,377),(22,252),(31,253),(138,309),(139,308),(128,310),(129,311),(130,312),(383,314),(384,313),(145,317),(120,318),(74,379),(71,380),(496,381),(73,384),(499,385),(286,386),(287,387),(288,388),(289,389),(290,390),(291,391),(500,392),(217,394),(304,395),(303,396),(302,397),(308,398),(309,399),(211,400),(311,401),(213,402),(91,403),(137,320),(172,323),(314,406),(82,407),(84,408),(200,409),(88,410),(312,411),(206,412),(17,413),(220,416),(221,417),(193,329),(319,419),(320,420),(100,421),(3,422),(10,426),(12,427),(25,428),(225,431),(226,432),(105,436),(106,435),(29,441),(30,442),(597,14),(598,15),(69,16),(380,17),(23,37),(621,49),(170,70),(179,170),(180,179),(181,180),(190,137),(134,294),(136,293),(373,295),(374,298),(378,302),(382,319),(385,315),(386,316),(497,382),(498,383),(307,393),(135,324),(317,414),(318,415),(222,423),(102,424),(103,425),(227,433)]
def cluT0:List (Nat×Fn):=[(588,.code F588),(589,.code F589),(590,.code F590),(591,.code F591),(592,.code F592),(593,.code F593),(605,.code F605),(720,.code F720),(594,.code F594),(595,.code F595),(596,.code F596),(599,.codeR F599 0)]
def cluT1:List (Nat×Fn):=[(600,.codeR F600 0),(601,.codeR F601 0),(721,.code F721),(603,.codeR F603 0),(604,.code F604),(606,.code F606),(607,.code F607),(608,.code F608),(609,.code F609),(327,.code F327),(395,.code F395),(722,.code F722)]
def cluT2:List (Nat×Fn):=[(553,.code F553),(554,.code F554),(555,.code F555),(144,.code F144),(610,.code F610),(611,.code F611),(501,.code F501),(612,.code F612),(613,.code F613),(614,.code F614),(615,.code F615),(616,.codeR F616 0)]
def cluT3:List (Nat×Fn):=[(617,.codeR F617 0),(618,.code F618),(619,.codeR F619 0),(723,.code F723),(724,.code F724),(620,.codeR F620 0),(558,.code F558),(331,.code F331),(725,.code F725),(396,.code F396),(622,.code F622),(623,.code F623)]
def cluT4:List (Nat×Fn):=[(399,.code F399),(332,.code F332),(153,.code F153),(536,.code F536),(624,.code F624),(154,.code F154),(345,.code F345),(397,.code F397),(401,.code F401),(43,.code F43),(516,.code F516),(511,.code F511)]
def cluT5:List (Nat×Fn):=[(570,.code F570),(571,.code F571),(572,.code F572),(141,.code F141),(171,.code F171),(406,.code F406),(625,.code F625),(463,.code F463),(40,.code F40),(626,.code F626),(627,.code F627),(628,.code F628)]
def cluT6:List (Nat×Fn):=[(529,.code F529),(629,.code F629),(630,.codeR F630 0),(726,.code F726),(556,.code F556),(557,.code F557),(563,.code F563),(564,.code F564),(517,.code F517),(512,.code F512),(585,.code F585),(566,.code F566)]
def cluT7:List (Nat×Fn):=[(632,.code F632),(727,.code F727),(328,.code F328),(352,.code F352),(348,.code F348),(65,.code F65),(159,.code F159),(156,.code F156),(157,.code F157),(148,.code F148),(575,.code F575),(728,.code F728)]
def cluT8:List (Nat×Fn):=[(402,.code F402),(44,.code F44),(518,.code F518),(513,.code F513),(633,.code F633),(45,.code F45),(360,.code F360),(353,.code F353),(116,.code F116),(354,.code F354),(460,.code F460),(459,.code F459)]
def cluT9:List (Nat×Fn):=[(488,.code F488),(489,.code F489),(503,.code F503),(634,.code F634),(635,.code F635),(368,.code F368),(249,.code F249),(421,.codeR F421 0),(422,.codeR F422 0),(423,.codeR F423 0),(68,.code F68),(39,.code F39)]
def cluT10:List (Nat×Fn):=[(526,.codeR F422 0),(528,.codeR F457 0),(527,.codeR F527 0),(485,.code F485),(537,.codeR F421 0),(538,.codeR F538 0),(408,.code F408),(484,.code F484),(580,.code F580),(581,.code F581),(582,.code F582),(162,.code F162)]
def cluT11:List (Nat×Fn):=[(163,.code F163),(164,.code F164),(165,.code F165),(166,.code F166),(191,.code F191),(186,.code F186),(192,.code F192),(427,.code F427),(428,.code F428),(636,.code F636),(285,.code F285),(341,.code F341)]
def cluT12:List (Nat×Fn):=[(457,.codeR F457 0),(458,.codeR F458 0),(637,.code F637),(638,.code F638),(729,.code F729),(730,.code F730),(562,.code F562),(573,.code F573),(574,.code F574),(577,.code F577),(578,.code F578),(579,.code F579)]
def cluT13:List (Nat×Fn):=[(531,.codeR F531 0),(539,.codeR F539 0),(530,.codeR F530 0),(540,.codeR F540 0),(541,.codeR F541 0),(542,.codeR F542 0),(543,.codeR F543 0),(532,.codeR F532 0),(491,.code F491),(587,.code F587),(465,.codeR F465 0),(464,.codeR F464 0)]
def cluT14:List (Nat×Fn):=[(492,.codeR F492 0),(493,.codeR F493 0),(466,.codeR F466 0),(731,.code F731),(732,.code F732),(126,.code F126),(28,.code F28),(346,.code F346),(347,.code F347),(75,.code F75),(177,.code F177),(175,.code F175)]
def cluT15:List (Nat×Fn):=[(178,.code F178),(584,.code F584),(424,.code F424),(61,.code F61),(62,.code F62),(533,.code F460),(535,.code F488),(534,.code F534),(504,.code F504),(544,.code F459),(641,.code F641),(70,.code F70)]
def cluT16:List (Nat×Fn):=[(372,.code F372),(487,.code F487),(486,.code F486),(244,.code F244),(301,.code F301),(284,.code F284),(455,.code F455),(456,.code F456),(63,.code F63),(64,.code F64),(66,.code F66),(67,.code F67)]
def cluT17:List (Nat×Fn):=[(430,.code F430),(41,.code F41),(431,.code F431),(432,.code F432),(586,.code F586),(185,.code F185),(462,.code F462),(467,.codeR F467 0),(642,.code F642),(366,.code F366),(367,.code F367),(335,.code F335)]
def cluT18:List (Nat×Fn):=[(407,.code F407),(583,.code F583),(506,.code F506),(567,.codeR F567 0),(565,.codeR F565 0),(507,.code F507),(568,.codeR F568 0),(490,.code F490),(569,.codeR F569 0),(505,.code F505),(340,.code F340),(413,.code F413)]
def cluT19:List (Nat×Fn):=[(32,.code F32),(369,.code F369),(194,.code F194),(461,.code F461),(101,.code F101),(502,.code F502),(203,.code F203),(81,.code F81),(298,.code F298),(299,.code F299),(316,.code F316),(313,.code F313)]
def cluT20:List (Nat×Fn):=[(483,.code F483),(76,.code F76),(468,.code F468),(112,.code F112),(355,.code F355),(113,.code F113),(356,.code F356),(15,.code F15),(357,.code F357),(51,.code F51),(429,.code F429),(121,.code F121)]
def cluT21:List (Nat×Fn):=[(361,.code F361),(362,.code F362),(363,.code F363),(364,.code F364),(365,.code F365),(437,.code F437),(438,.code F438),(439,.code F439),(440,.code F440),(441,.code F441),(261,.code F261),(442,.code F442)]
def cluT22:List (Nat×Fn):=[(443,.code F443),(444,.code F444),(7,.code F7),(97,.code F97),(98,.code F98),(315,.code F315),(370,.code F370),(371,.code F371),(131,.code F131),(26,.code F26),(27,.code F27),(72,.code F72)]
def cluT23:List (Nat×Fn):=[(133,.code F133),(21,.code F21),(109,.code F109),(375,.code F375),(376,.code F376),(377,.code F377),(379,.code F379),(381,.code F381),(57,.code F57),(473,.code F473),(54,.code F54),(474,.code F474)]
def cluT24:List (Nat×Fn):=[(240,.code F240),(247,.code F247),(475,.code F475),(47,.code F47),(476,.code F476),(477,.code F477),(262,.code F262),(256,.code F256),(258,.code F258),(265,.code F265),(478,.code F478),(253,.code F253)]
def cluT25:List (Nat×Fn):=[(266,.code F266),(267,.code F267),(270,.code F270),(271,.code F271),(273,.code F273),(275,.code F275),(22,.code F22),(31,.code F31),(138,.code F138),(139,.code F139),(128,.code F128),(129,.code F129)]
def cluT26:List (Nat×Fn):=[(130,.code F130),(383,.code F383),(384,.code F384),(145,.code F145),(120,.code F120),(74,.code F74),(71,.code F71),(496,.code F496),(73,.code F73),(499,.code F499),(286,.code F286),(287,.code F287)]
def cluT27:List (Nat×Fn):=[(288,.code F288),(289,.code F289),(290,.code F290),(291,.code F291),(500,.code F500),(217,.code F217),(304,.code F304),(303,.code F303),(302,.code F302),(308,.code F308),(309,.code F309),(211,.code F211)]
def cluT28:List (Nat×Fn):=[(311,.code F311),(213,.code F213),(91,.code F91),(137,.code F137),(172,.code F172),(314,.code F314),(82,.code F82),(84,.code F84),(200,.code F200),(88,.code F88),(312,.code F312),(206,.code F206)]
def cluT29:List (Nat×Fn):=[(17,.code F17),(220,.code F220),(221,.code F221),(193,.code F193),(319,.code F319),(320,.code F320),(100,.code F100),(3,.code F3),(10,.code F10),(12,.code F12),(25,.code F25),(225,.code F225)]
def cluT30:List (Nat×Fn):=[(226,.code F226),(105,.code F105),(106,.code F106),(29,.code F29),(30,.code F30),(597,.prim (some 0) (cloneQ 38)),(598,.prim (some 0) (cloneQ 18)),(69,.prim (some 0) (cloneQ 1)),(380,.prim (some 0) (cloneQ 1)),(23,.prim (some 0) (cloneQ 5)),(621,.prim (some 2001) noQ),(170,.prim none keyQ)]
def cluT31:List (Nat×Fn):=[(179,.prim (some 0) (cloneQ 5)),(180,.prim (some 1005) noQ),(181,.prim (some 2005) noQ),(190,.prim none decQ),(134,.prim (some 0) (cloneQ 5)),(136,.prim (some 2005) noQ),(373,.prim (some 0) (cloneQ 3)),(374,.prim (some 0) (cloneQ 3)),(378,.prim (some 2001) noQ),(385,.prim (some 0) (cloneQ 7)),(386,.prim (some 1007) noQ),(497,.prim (some 0) (cloneQ 9))]
def cluT32:List (Nat×Fn):=[(498,.prim (some 1009) noQ),(307,.prim (some 0) (cloneQ 17)),(135,.prim (some 1005) noQ),(317,.prim (some 1017) noQ),(318,.prim (some 2017) noQ),(222,.prim (some 1002) noQ),(102,.prim (some 0) (cloneQ 11)),(103,.prim (some 1011) noQ),(227,.prim (some 0) (cloneQ 2))]
def cluTab:List (Nat×Fn):=cluT0++(cluT1++(cluT2++(cluT3++(cluT4++(cluT5++(cluT6++(cluT7++(cluT8++(cluT9++(cluT10++(cluT11++(cluT12++(cluT13++(cluT14++(cluT15++(cluT16++(cluT17++(cluT18++(cluT19++(cluT20++(cluT21++(cluT22++(cluT23++(cluT24++(cluT25++(cluT26++(cluT27++(cluT28++(cluT29++(cluT30++(cluT31++(cluT32))))))))))))))))))))))))))))))))
set_option maxRecDepth 100000
theorem okap {P:Go.Program} {cx:Cx} {tab:List (Nat×Fn)}:∀{a b:List (Nat×Fn)} (h:okTab P cx tab a=true) (t:okTab P cx tab b=true),okTab P cx tab (a++b)=true
 |[],_,_,t=>t
 |(k,.code F)::l,_,h,t=>by
  simp only[okTab,Bool.and_eq_true] at h;simp only[List.cons_append,okTab,h.1,okap h.2 t,Bool.and_self]
 |(k,.codeR F j)::l,_,h,t=>by
  simp only[okTab,Bool.and_eq_true] at h;simp only[List.cons_append,okTab,h.1.1,h.1.2,okap h.2 t,Bool.and_self]
 |(k,.prim o p)::l,_,h,t=>by
  simp only[okTab,Bool.and_eq_true] at h;simp only[List.cons_append,okTab,h.1,okap h.2 t,Bool.and_self]
noncomputable abbrev okq (l:List (Nat×Fn)):Bool:=okTab Tryz.prog (cxU cluFm) cluTab l
theorem ok0:okq cluT0=true:=by kernel_rfl
theorem ok1:okq cluT1=true:=by kernel_rfl
theorem ok2:okq cluT2=true:=by kernel_rfl
theorem ok3:okq cluT3=true:=by kernel_rfl
theorem ok4:okq cluT4=true:=by kernel_rfl
theorem ok5:okq cluT5=true:=by kernel_rfl
theorem ok6:okq cluT6=true:=by kernel_rfl
theorem ok7:okq cluT7=true:=by kernel_rfl
theorem ok8:okq cluT8=true:=by kernel_rfl
theorem ok9:okq cluT9=true:=by kernel_rfl
theorem ok10:okq cluT10=true:=by kernel_rfl
theorem ok11:okq cluT11=true:=by kernel_rfl
theorem ok12:okq cluT12=true:=by kernel_rfl
theorem ok13:okq cluT13=true:=by kernel_rfl
theorem ok14:okq cluT14=true:=by kernel_rfl
theorem ok15:okq cluT15=true:=by kernel_rfl
theorem ok16:okq cluT16=true:=by kernel_rfl
theorem ok17:okq cluT17=true:=by kernel_rfl
theorem ok18:okq cluT18=true:=by kernel_rfl
theorem ok19:okq cluT19=true:=by kernel_rfl
theorem ok20:okq cluT20=true:=by kernel_rfl
theorem ok21:okq cluT21=true:=by kernel_rfl
theorem ok22:okq cluT22=true:=by kernel_rfl
theorem ok23:okq cluT23=true:=by kernel_rfl
theorem ok24:okq cluT24=true:=by kernel_rfl
theorem ok25:okq cluT25=true:=by kernel_rfl
theorem ok26:okq cluT26=true:=by kernel_rfl
theorem ok27:okq cluT27=true:=by kernel_rfl
theorem ok28:okq cluT28=true:=by kernel_rfl
theorem ok29:okq cluT29=true:=by kernel_rfl
theorem ok30:okq cluT30=true:=by kernel_rfl
theorem ok31:okq cluT31=true:=by kernel_rfl
theorem ok32:okq cluT32=true:=by kernel_rfl
theorem okAll:okTab Tryz.prog (cxU cluFm) cluTab cluTab=true:=okap ok0 (okap ok1 (okap ok2 (okap ok3 (okap ok4 (okap ok5 (okap ok6 (okap ok7 (okap ok8 (okap ok9 (okap ok10 (okap ok11 (okap ok12 (okap ok13 (okap ok14 (okap ok15 (okap ok16 (okap ok17 (okap ok18 (okap ok19 (okap ok20 (okap ok21 (okap ok22 (okap ok23 (okap ok24 (okap ok25 (okap ok26 (okap ok27 (okap ok28 (okap ok29 (okap ok30 (okap ok31 (ok32))))))))))))))))))))))))))))))))
theorem okClone597:okF Tryz.prog (cxU cluFm) (onePg 597 (cloneF 38 [.int .i64 0,.str [],.str [],.int .i64 0,.bool false,.bool false,.int .i64 0,.slice 9 [],.slice 5 [],.slice 3 [],.int .i64 0,.slice 5 [],.slice 3 [],.int .i64 0,.int .i64 0,.int .i64 0,.int .i64 0,.int .i64 0,.int .i64 0,.int .i64 0,.int .i64 0,.int .i64 0,.int .i64 0,.int .i64 0,.str [],.slice 1 [],.int .i64 0,.int .i64 0,.int .i64 0,.str [],.str [],.slice 1 [],.int .i64 0,.int .i64 0,.int .i64 0,.slice 1 [],.slice 7 [],.bool false])) 14 (cloneF 38 [.int .i64 0,.str [],.str [],.int .i64 0,.bool false,.bool false,.int .i64 0,.slice 9 [],.slice 5 [],.slice 3 [],.int .i64 0,.slice 5 [],.slice 3 [],.int .i64 0,.int .i64 0,.int .i64 0,.int .i64 0,.int .i64 0,.int .i64 0,.int .i64 0,.int .i64 0,.int .i64 0,.int .i64 0,.int .i64 0,.str [],.slice 1 [],.int .i64 0,.int .i64 0,.int .i64 0,.str [],.str [],.slice 1 [],.int .i64 0,.int .i64 0,.int .i64 0,.slice 1 [],.slice 7 [],.bool false])=true:=by kernel_rfl
theorem okClone598:okF Tryz.prog (cxU cluFm) (onePg 598 (cloneF 18 [.int .i64 0,.int .i64 0,.slice 5 [],.slice 1 [],.int .i64 0,.int .i64 0,.int .i64 0,.str [],.str [],.bool false,.str [],.int .i64 0,.int .i64 0,.int .i64 0,.str [],.int .i64 0,.bool false,.int .i64 0])) 15 (cloneF 18 [.int .i64 0,.int .i64 0,.slice 5 [],.slice 1 [],.int .i64 0,.int .i64 0,.int .i64 0,.str [],.str [],.bool false,.str [],.int .i64 0,.int .i64 0,.int .i64 0,.str [],.int .i64 0,.bool false,.int .i64 0])=true:=by kernel_rfl
theorem okClone69:okF Tryz.prog (cxU cluFm) (onePg 69 (cloneF 1 [.int .i64 0])) 16 (cloneF 1 [.int .i64 0])=true:=by kernel_rfl
theorem okClone380:okF Tryz.prog (cxU cluFm) (onePg 380 (cloneF 1 [.str []])) 17 (cloneF 1 [.str []])=true:=by kernel_rfl
theorem okClone23:okF Tryz.prog (cxU cluFm) (onePg 23 (cloneF 5 [.int .i64 0,.int .i64 0,.int .i64 0,.bool false,.str []])) 37 (cloneF 5 [.int .i64 0,.int .i64 0,.int .i64 0,.bool false,.str []])=true:=by kernel_rfl
theorem okClone179:okF Tryz.prog (cxU cluFm) (onePg 179 (cloneF 5 [.str [],.str [],.int .i64 0,.int .i64 0,.int .i64 0])) 170 (cloneF 5 [.str [],.str [],.int .i64 0,.int .i64 0,.int .i64 0])=true:=by kernel_rfl
theorem okClone134:okF Tryz.prog (cxU cluFm) (onePg 134 (cloneF 5 [.int .i64 0,.int .i64 0,.int .i64 0,.int .i64 0,.int .i64 0])) 294 (cloneF 5 [.int .i64 0,.int .i64 0,.int .i64 0,.int .i64 0,.int .i64 0])=true:=by kernel_rfl
theorem okClone373:okF Tryz.prog (cxU cluFm) (onePg 373 (cloneF 3 [.int .i64 0,.int .i64 0,.int .i64 0])) 295 (cloneF 3 [.int .i64 0,.int .i64 0,.int .i64 0])=true:=by kernel_rfl
theorem okClone374:okF Tryz.prog (cxU cluFm) (onePg 374 (cloneF 3 [.int .i64 0,.slice 1 [],.bool false])) 298 (cloneF 3 [.int .i64 0,.slice 1 [],.bool false])=true:=by kernel_rfl
theorem okClone385:okF Tryz.prog (cxU cluFm) (onePg 385 (cloneF 7 [.int .i64 0,.int .i64 0,.int .i64 0,.int .i64 0,.int .i64 0,.int .i64 0,.int .i64 0])) 315 (cloneF 7 [.int .i64 0,.int .i64 0,.int .i64 0,.int .i64 0,.int .i64 0,.int .i64 0,.int .i64 0])=true:=by kernel_rfl
theorem okClone497:okF Tryz.prog (cxU cluFm) (onePg 497 (cloneF 9 [.int .i64 0,.int .i64 0,.int .i64 0,.slice 1 [],.int .i64 0,.str [],.str [],.slice 1 [],.slice 36 []])) 382 (cloneF 9 [.int .i64 0,.int .i64 0,.int .i64 0,.slice 1 [],.int .i64 0,.str [],.str [],.slice 1 [],.slice 36 []])=true:=by kernel_rfl
theorem okClone307:okF Tryz.prog (cxU cluFm) (onePg 307 (cloneF 17 [.int .i64 0,.int .i64 0,.str [],.str [],.int .i64 0,.slice 2 [],.int .i64 0,.int .i64 0,.int .i64 0,.int .i64 0,.int .i64 0,.int .i64 0,.slice 11 [],.int .i64 0,.int .i64 0,.int .i64 0,.int .i64 0])) 393 (cloneF 17 [.int .i64 0,.int .i64 0,.str [],.str [],.int .i64 0,.slice 2 [],.int .i64 0,.int .i64 0,.int .i64 0,.int .i64 0,.int .i64 0,.int .i64 0,.slice 11 [],.int .i64 0,.int .i64 0,.int .i64 0,.int .i64 0])=true:=by kernel_rfl
theorem okClone102:okF Tryz.prog (cxU cluFm) (onePg 102 (cloneF 11 [.int .i64 0,.int .i64 0,.int .i64 0,.int .i64 0,.int .i64 0,.int .i64 0,.bool false,.str [],.slice 2 [],.str [],.bool false])) 424 (cloneF 11 [.int .i64 0,.int .i64 0,.int .i64 0,.int .i64 0,.int .i64 0,.int .i64 0,.bool false,.str [],.slice 2 [],.str [],.bool false])=true:=by kernel_rfl
theorem okClone227:okF Tryz.prog (cxU cluFm) (onePg 227 (cloneF 2 [.str [],.slice 5 []])) 433 (cloneF 2 [.str [],.slice 5 []])=true:=by kernel_rfl
end Sg
namespace Sg
open Go Go.RowKit Go.Lib Go.Proofs
def insB:=And.intro Tryz.underlying0 (And.intro Tryz.underlying3 (And.intro Tryz.underlying4 (And.intro Tryz.isAgg0 (And.intro Tryz.isAgg3 (And.intro Tryz.isAgg4 (And.intro Tryz.sizeOf0 (And.intro Tryz.sizeOf3 (And.intro Tryz.sizeOf4 (And.intro Tryz.zeroValue0 (And.intro Tryz.zeroValue3 (And.intro Tryz.zeroValue4 (And.intro (run_underlying Tryz.underlying0) (And.intro (run_underlying Tryz.underlying3) ((run_underlying Tryz.underlying4)))))))))))))))
def insB49:=And.intro Tryz.underlying9 (And.intro Tryz.underlying33 (And.intro Tryz.isAgg9 (And.intro Tryz.isAgg33 (And.intro Tryz.sizeOf9 (And.intro Tryz.sizeOf33 (And.intro Tryz.zeroValue33 ((run_underlying Tryz.underlying33))))))))
theorem delC49:DelC Tryz.prog 49 1 where
 ent:=⟨Tryz.f49,Tryz.func49,by kernel_rfl,by kernel_rfl⟩
 pos:=by decide
 nothing:=by
  intro base n c i w hnc hi hnil;obtain⟨t0,t3,t4,a0,a3,a4,z0,z3,z4,v0,v3,v4,u0,u3,u4⟩:=insB;obtain⟨t9,t24,a9,a24,z9,z24,v24,u24⟩:=insB49;have mixed:Tryz.prog.follows .mixedOrders=true:=by kernel_rfl
  go_enter Tryz.func49,Tryz.ntmps49
  cases base with
  |none=>
   have h0:=hnil rfl;subst h0;have hi0:i=0:=by omega
   subst hi0
   go_wp2
   all_goals (go_ret;exact⟨rfl,rfl⟩)
  |some a=>
   obtain⟨ab,ao,asp⟩:=a
   go_wp2
   all_goals (go_ret;exact⟨rfl,rfl⟩)
 cut:=by
  intro b off n c i j cs w hij hj hnc hlim hcl hcs hfz h1c;obtain⟨t0,t3,t4,a0,a3,a4,z0,z3,z4,v0,v3,v4,u0,u3,u4⟩:=insB;obtain⟨t9,t24,a9,a24,z9,z24,v24,u24⟩:=insB49;have mixed:Tryz.prog.follows .mixedOrders=true:=by kernel_rfl
  obtain⟨i0,hi0,hzs,hzb⟩:∃i0,Tryz.prog.info? 9=some i0∧i0.size=1∧i0.bytes=16:=⟨_,rfl,rfl,rfl⟩;have hv9:∀w,(zeroValue 9).run Tryz.prog w=.ok (Value.string ⟨#[]⟩) w:=Tryz.zeroValue9;obtain⟨news,hnews⟩:∃news,news=cs.drop (j*1):=⟨_,rfl⟩;have hlen:news.length=(n-j)*1:=by rw[hnews,List.length_drop,hcl];omega
  obtain⟨A,hA,hsrc⟩:∃A:Addr,(if c=j then some (⟨b,off,none⟩:Addr) else some ⟨b,off+j*1,none⟩)=some A∧Hid (∀t u,news[t]?=some u→w.drew.cell? (A.add t)=some u):=by
   by_cases h:c=j
   ·refine⟨⟨b,off,none⟩,by simp[h],fun t u hu=>?_⟩;have h0:news.length=0:=by rw[hlen];omega
    rw[List.length_eq_zero_iff.1 h0] at hu;simp at hu
   ·refine⟨⟨b,off+j*1,none⟩,by simp[h],fun t u hu=>?_⟩;rw[Addr.add_lit,Nat.add_assoc];refine hcs (j*1+t) u ?_;rw[hnews,List.getElem?_drop] at hu;exact hu
  have s1:Hid (news.length=(n-j)*1):=hlen;have s2:Hid (∀u∈news,u.oneCell'=true):=fun u hu=>h1c u (List.mem_of_mem_drop (hnews▸hu));have hcell:∀k,k<n*1→(w.cell? ⟨b,off+k,none⟩).isSome=true:=fun k hk=>by
   have hk':k<cs.length:=by omega
   rw[hcs k cs[k] (by simp)];rfl
  have s3:Hid (∀t,t<news.length→(w.drew.cell? ⟨b,off+i*1+t,none⟩).isSome=true∧w.drew.frozen? ⟨b,off+i*1+t,none⟩=false):=by
   intro t ht;rw[hlen] at ht;rw[Nat.add_assoc];exact⟨hcell _ (by omega),hfz _⟩
  obtain⟨W1,hW1⟩:∃W1,W1=w.drew.setCells b (off+i*1) news:=⟨_,rfl⟩;have hZl:∀k,(Builtin.zeroCells (Value.string ⟨#[]⟩).cells k).toList.length=k*1:=fun k=>by simp[Builtin.zeroCells,Value.cells]
  have hZ1:∀k,∀v∈(Builtin.zeroCells (Value.string ⟨#[]⟩).cells k).toList,v.oneCell'=true:=fun k v hv=>zero_one (by decide) hv;have hcl2:∀ty,(Builtin.clear_ #[33] ty #[.slice (some ⟨b,off+(i+(n-j))*1,none⟩) (n-(i+(n-j))) (c-(i+(n-j)))]).run Tryz.prog W1=.ok (.tuple #[]) (W1.setCells b (off+(i+(n-j))*1) (Builtin.zeroCells (Value.string ⟨#[]⟩).cells (n-(i+(n-j)))).toList):=fun ty=>
   run_clear_k W1 33 9 ty _ t24 hv9 b _ _ _ (by omega) (hZ1 _) (fun k hk=>by
    rw[hZl] at hk;rw[hW1];refine isSome_setK b _ _ _ (fun t ht=>?_) _ ?_
    ·rw[hlen] at ht;rw[Nat.add_assoc];exact hcell _ (by omega)
    ·rw[Nat.add_assoc];exact hcell _ (by omega)) (fun k=>by rw[hW1,World.frozen?_setCells];exact hfz k)
  have hW:Hid (W1=w.drew.setCells b (off+i*1) news):=hW1;have X:Hid (news=cs.drop (j*1)):=hnews;have Y1:=hZl (n-(i+(n-j)));have Y2:=hZ1 (n-(i+(n-j)));obtain⟨ZS,hZS⟩:∃ZS,ZS=(Builtin.zeroCells (Value.string ⟨#[]⟩).cells (n-(i+(n-j)))).toList:=⟨_,rfl⟩;rw[←hZS] at hcl2 Y1 Y2;simp only[Nat.mul_one] at hcl2;have Y1h:Hid (ZS.length=(n-(i+(n-j)))*1):=Y1;have Y2h:Hid (∀v∈ZS,v.oneCell'=true):=Y2;have hic:i≤c:=by omega
  have hjc:j≤c:=by omega
  have heq:¬((i:Int)=(j:Int)):=by omega
  clear hW1 hnews hlen Y1 Y2 hZS hZl hZ1 hcell hcs hcl h1c
  go_enter Tryz.func49,Tryz.ntmps49
  go_wp2_with fail
  go_region_law_o (refine step_append_room rfl (.tmp 22) (.tmp 25) 33 rfl 9 i0 1 t24 hi0 hzs b off i c (by simp[Act.eval,Act.put]) A (n-j) (c-j) news (by (simp[Act.eval,Act.put])<;>simpa using hA) s1.out hsrc.out s2.out (by omega) s3.out ?_;rw[←hW.out])
  go_wp2
  all_goals
   go_ret
   refine⟨by rw[show n-(j-i)=i+(n-j) by omega];rfl,w.drew.drawn,ZS,?_,Y2h.out,?_⟩
   ·have hY:=Y1h.out
    simp only[Nat.mul_one] at hY ⊢
    omega
   ·have hX:=X.out
    have hw:=hW.out
    simp only[Nat.mul_one] at hX hw ⊢
    rw[←hX,show n-(j-i)=i+(n-j) by omega]
    have:({w with drawn:=w.drew.drawn}:World)=w.drew:=rfl
    rw[this,←hw]
def insB179:=And.intro Tryz.underlying125 (And.intro Tryz.underlying51 (And.intro Tryz.isAgg125 (And.intro Tryz.isAgg51 (And.intro Tryz.sizeOf125 (And.intro Tryz.sizeOf51 (And.intro Tryz.zeroValue51 ((run_underlying Tryz.underlying51))))))))
theorem insC179:InsC Tryz.prog 179 5 51 125 where
 ent:=⟨Tryz.f179,Tryz.func179,by kernel_rfl,by kernel_rfl⟩
 hS:=Tryz.underlying51
 hz:=by kernel_rfl
 pos:=by decide
 info:=⟨_,(Value.agg #[.string ⟨#[]⟩,.string ⟨#[]⟩,.int .i64 0,.int .i64 0,.int .i64 0]),rfl,by decide,rfl,rfl⟩
 nothing:=by
  intro base n c i vc vb w hnc hi hnil;obtain⟨t0,t3,t4,a0,a3,a4,z0,z3,z4,v0,v3,v4,u0,u3,u4⟩:=insB;obtain⟨t9,t24,a9,a24,z9,z24,v24,u24⟩:=insB179;have mixed:Tryz.prog.follows .mixedOrders=true:=by kernel_rfl
  go_enter Tryz.func179,Tryz.ntmps179
  cases base with
  |none=>
   have h0:=hnil rfl;subst h0;have hi0:i=0:=by omega
   subst hi0
   go_wp2
   all_goals (go_ret;exact⟨rfl,rfl⟩)
  |some a=>
   obtain⟨ab,ao,asp⟩:=a
   go_wp2
   all_goals (go_ret;exact⟨rfl,rfl⟩)
 end_:=by
  intro base n c m vc vb w w' q hm hnc hlim hnil hrun;obtain⟨t0,t3,t4,a0,a3,a4,z0,z3,z4,v0,v3,v4,u0,u3,u4⟩:=insB;obtain⟨t9,t24,a9,a24,z9,z24,v24,u24⟩:=insB179;have mixed:Tryz.prog.follows .mixedOrders=true:=by kernel_rfl
  have hz1:¬((m:Int)=0):=by omega
  go_enter Tryz.func179,Tryz.ntmps179
  cases base with
  |none=>
   have h0:=hnil rfl;subst h0
   go_wp2_with (at_builtin;refine Lib.wpList_append_run _ rfl _ _ _ _ rfl _ _ rfl rfl _ _ hrun ?_)
   all_goals (go_ret;exact⟨rfl,rfl⟩)
  |some a=>
   obtain⟨ab,ao,asp⟩:=a
   go_wp2_with (at_builtin;refine Lib.wpList_append_run _ rfl _ _ _ _ rfl _ _ rfl rfl _ _ hrun ?_)
   all_goals (go_ret;exact⟨rfl,rfl⟩)
 shift:=by
  intro b off n c i vb voff m vc cs vs w hi hm hroom hlim hvb hcl hvl hcs hsp hfz hvs h1c h1v tA tB kA kB hsa hsb hkA;obtain⟨t0,t3,t4,a0,a3,a4,z0,z3,z4,v0,v3,v4,u0,u3,u4⟩:=insB;obtain⟨t9,t24,a9,a24,z9,z24,v24,u24⟩:=insB179;have hz1:¬((m:Int)=0):=by omega
  have hz2:¬((i:Int)=(n:Int)):=by omega
  have hsz:(Tryz.prog.info? 125).map (·.size)=some 5:=by kernel_rfl
  have hov:∀lb cb,(callFunc 229 #[.slice (some ⟨vb,voff,none⟩) m vc,.slice (some ⟨b,off+(i+m)*5,none⟩) lb cb]).run Tryz.prog w=.ok (.value (.bool false)) w:=fun lb cb=>by
   rw[run_callFunc_extern Tryz.func229 (by kernel_rfl) (by kernel_rfl) (by kernel_rfl) (e:=Extern.SlicesOverlaps.overlaps #[51,51] #[4]) (by kernel_rfl),
    run_overlaps_k w 51 4 125 t24 5 z9 ⟨vb,voff,none⟩ ⟨b,off+(i+m)*5,none⟩ m vc lb cb hvb tA tB kA kB hsa hsb hkA (hfz _) (hfz _)]
   rfl
  have mixed:Tryz.prog.follows .mixedOrders=true:=by kernel_rfl
  have hw1:IntKind.i64.wrap ((i:Int)+(m:Int))=(i:Int)+(m:Int):=by rw[IntKind.wrap_i64];omega
  have hb1:(0:Int)≤(i:Int)+(m:Int):=by omega
  have hin:i≤n:=by omega
  have htn:((i:Int)+(m:Int)).toNat=i+m:=by omega
  have hb2:¬(c=i+m):=by omega
  have hb3:(i:Int)≤(n:Int)+(m:Int):=by omega
  have hb4:¬(c=i):=by omega
  obtain⟨W1,hW1,hcp1,hcp2⟩:=ins_p1 t24 hsz b off n c i vb voff m vc cs vs w hi hm hvb hcl hvl hcs hsp hfz hvs h1c h1v
  go_enter Tryz.func179,Tryz.ntmps179
  go_wp2_with (simp only[hov])
  go_region_law_o (refine step_copy_k rfl _ _ 51 51 rfl _ _ (by simp[Act.eval,Act.put]) (by simp[Act.eval,Act.put]) (hcp1 _ _ _) ?_)
  go_wp2_with (at_builtin;refine wpList_copy_k _ rfl _ _ 51 51 rfl _ _ rfl rfl (hcp2 _ (fun _=>rfl) (fun _=>rfl) _ _) ?_)
  go_ret
  first|exact⟨rfl,rfl⟩|exact⟨rfl,by rw[hW1]⟩
 grow:=by
  intro b off n c i vb voff m vc cs vs w hi hm hnc hroom hlim hcl hvl hbw hvw hcs hvs h1c h1v;obtain⟨t0,t3,t4,a0,a3,a4,z0,z3,z4,v0,v3,v4,u0,u3,u4⟩:=insB;obtain⟨t9,t24,a9,a24,z9,z24,v24,u24⟩:=insB179;have mixed:Tryz.prog.follows .mixedOrders=true:=by kernel_rfl
  obtain⟨i0,hi0,hz0,hzs,hzb⟩:∃i0,Tryz.prog.info? 125=some i0∧i0.zero=some (Value.agg #[.string ⟨#[]⟩,.string ⟨#[]⟩,.int .i64 0,.int .i64 0,.int .i64 0])∧i0.size=5∧i0.bytes=56:=⟨_,rfl,rfl,rfl,rfl⟩;have hz1:¬((m:Int)=0):=by omega
  have hz2:¬((i:Int)=(n:Int)):=by omega
  have hz3:(c:Int)<(n:Int)+(m:Int):=by omega
  obtain⟨G,ROW,hGn,hRl,hRs,hRt,hG63,hrz,hcpA,hcpB⟩:=ins_p2 t24 t3 i0 (Value.agg #[.string ⟨#[]⟩,.string ⟨#[]⟩,.int .i64 0,.int .i64 0,.int .i64 0]) hi0 hz0 hzs (by decide) (by rw[hzb];decide) (fun k=>by simp[Builtin.zeroCells,Value.cells]) b off n c i vb voff m vc cs vs w hi hm hnc hroom hlim hcl hvl hbw hvw hcs hvs h1c h1v;have hGi:¬(G=i):=by omega
  have hGim:¬(G=i+m):=by omega
  have hci:¬(c=i):=by omega
  have hE1:∀x,((w.alloc (.cells ROW 125)).drew).cell? x=(w.drew.alloc (.cells ROW 125)).cell? x:=fun x=>rfl;have hE2:∀x,((w.alloc (.cells ROW 125)).drew).frozen? x=(w.drew.alloc (.cells ROW 125)).frozen? x:=fun x=>rfl;have hF1:∀x,(((w.alloc (.cells ROW 125)).drew.setCells w.heap.size (i*5) vs).drew).cell? x=((w.drew.alloc (.cells ROW 125)).setCells w.heap.size (i*5) vs).cell? x:=fun x=>rfl;have hF2:∀x,(((w.alloc (.cells ROW 125)).drew.setCells w.heap.size (i*5) vs).drew).frozen? x=((w.drew.alloc (.cells ROW 125)).setCells w.heap.size (i*5) vs).frozen? x:=fun x=>rfl;have hw1:IntKind.i64.wrap ((i:Int)+(m:Int))=(i:Int)+(m:Int):=by rw[IntKind.wrap_i64];omega
  have hb1:(0:Int)≤(i:Int)+(m:Int):=by omega
  have hin:i≤n:=by omega
  have htn:((i:Int)+(m:Int)).toNat=i+m:=by omega
  have hb3:(i:Int)≤(n:Int):=by omega
  go_enter Tryz.func179,Tryz.ntmps179
  go_wp2_with (first
   |(at_builtin;refine Lib.wpList_append_run _ rfl _ _ _ _ rfl _ _ rfl rfl _ _ (hrz _) ?_)
   |(at_builtin;refine wpList_copy_k _ rfl _ _ 51 51 rfl _ _ rfl rfl (hcpA _ hE1 hE2 _ _) ?_)
   |(at_builtin;refine wpList_copy_k _ rfl _ _ 51 51 rfl _ _ rfl rfl (hcpB _ (fun _=>rfl) (fun _=>rfl) _ _ _) ?_))
  go_region_law_o (refine step_copy_k rfl _ _ 51 51 rfl (.slice (some ⟨w.heap.size,(i+m)*5,none⟩) (n+m-(i+m)) (G-(i+m))) (.slice (some ⟨b,off+i*5,none⟩) (n-i) (c-i)) (by simp[Act.eval,Act.put]) (by simp[Act.eval,Act.put]) (hcpB _ hF1 hF2 3 (G-(i+m)) (c-i)) ?_)
  go_wp2
  go_ret
  exact⟨G,ROW,w.drew.drew.drawn,hGn,hRl,hRs,hRt,rfl,by first|rfl|(rw[drew_setK];rfl)|(simp only[drew_setK];rfl)⟩
def insB180:=And.intro Tryz.underlying125 (And.intro Tryz.underlying51 (And.intro Tryz.isAgg125 (And.intro Tryz.isAgg51 (And.intro Tryz.sizeOf125 (And.intro Tryz.sizeOf51 (And.intro Tryz.zeroValue51 ((run_underlying Tryz.underlying51))))))))
theorem delC180:DelC Tryz.prog 180 5 where
 ent:=⟨Tryz.f180,Tryz.func180,by kernel_rfl,by kernel_rfl⟩
 pos:=by decide
 nothing:=by
  intro base n c i w hnc hi hnil;obtain⟨t0,t3,t4,a0,a3,a4,z0,z3,z4,v0,v3,v4,u0,u3,u4⟩:=insB;obtain⟨t9,t24,a9,a24,z9,z24,v24,u24⟩:=insB180;have mixed:Tryz.prog.follows .mixedOrders=true:=by kernel_rfl
  go_enter Tryz.func180,Tryz.ntmps180
  cases base with
  |none=>
   have h0:=hnil rfl;subst h0;have hi0:i=0:=by omega
   subst hi0
   go_wp2
   all_goals (go_ret;exact⟨rfl,rfl⟩)
  |some a=>
   obtain⟨ab,ao,asp⟩:=a
   go_wp2
   all_goals (go_ret;exact⟨rfl,rfl⟩)
 cut:=by
  intro b off n c i j cs w hij hj hnc hlim hcl hcs hfz h1c;obtain⟨t0,t3,t4,a0,a3,a4,z0,z3,z4,v0,v3,v4,u0,u3,u4⟩:=insB;obtain⟨t9,t24,a9,a24,z9,z24,v24,u24⟩:=insB180;have mixed:Tryz.prog.follows .mixedOrders=true:=by kernel_rfl
  obtain⟨i0,hi0,hzs,hzb⟩:∃i0,Tryz.prog.info? 125=some i0∧i0.size=5∧i0.bytes=56:=⟨_,rfl,rfl,rfl⟩;have hv9:∀w,(zeroValue 125).run Tryz.prog w=.ok (Value.agg #[.string ⟨#[]⟩,.string ⟨#[]⟩,.int .i64 0,.int .i64 0,.int .i64 0]) w:=Tryz.zeroValue125;obtain⟨news,hnews⟩:∃news,news=cs.drop (j*5):=⟨_,rfl⟩;have hlen:news.length=(n-j)*5:=by rw[hnews,List.length_drop,hcl];omega
  obtain⟨A,hA,hsrc⟩:∃A:Addr,(if c=j then some (⟨b,off,none⟩:Addr) else some ⟨b,off+j*5,none⟩)=some A∧Hid (∀t u,news[t]?=some u→w.drew.cell? (A.add t)=some u):=by
   by_cases h:c=j
   ·refine⟨⟨b,off,none⟩,by simp[h],fun t u hu=>?_⟩;have h0:news.length=0:=by rw[hlen];omega
    rw[List.length_eq_zero_iff.1 h0] at hu;simp at hu
   ·refine⟨⟨b,off+j*5,none⟩,by simp[h],fun t u hu=>?_⟩;rw[Addr.add_lit,Nat.add_assoc];refine hcs (j*5+t) u ?_;rw[hnews,List.getElem?_drop] at hu;exact hu
  have s1:Hid (news.length=(n-j)*5):=hlen;have s2:Hid (∀u∈news,u.oneCell'=true):=fun u hu=>h1c u (List.mem_of_mem_drop (hnews▸hu));have hcell:∀k,k<n*5→(w.cell? ⟨b,off+k,none⟩).isSome=true:=fun k hk=>by
   have hk':k<cs.length:=by omega
   rw[hcs k cs[k] (by simp)];rfl
  have s3:Hid (∀t,t<news.length→(w.drew.cell? ⟨b,off+i*5+t,none⟩).isSome=true∧w.drew.frozen? ⟨b,off+i*5+t,none⟩=false):=by
   intro t ht;rw[hlen] at ht;rw[Nat.add_assoc];exact⟨hcell _ (by omega),hfz _⟩
  obtain⟨W1,hW1⟩:∃W1,W1=w.drew.setCells b (off+i*5) news:=⟨_,rfl⟩;have hZl:∀k,(Builtin.zeroCells (Value.agg #[.string ⟨#[]⟩,.string ⟨#[]⟩,.int .i64 0,.int .i64 0,.int .i64 0]).cells k).toList.length=k*5:=fun k=>by simp[Builtin.zeroCells,Value.cells]
  have hZ1:∀k,∀v∈(Builtin.zeroCells (Value.agg #[.string ⟨#[]⟩,.string ⟨#[]⟩,.int .i64 0,.int .i64 0,.int .i64 0]).cells k).toList,v.oneCell'=true:=fun k v hv=>zero_one (by decide) hv;have hcl2:∀ty,(Builtin.clear_ #[51] ty #[.slice (some ⟨b,off+(i+(n-j))*5,none⟩) (n-(i+(n-j))) (c-(i+(n-j)))]).run Tryz.prog W1=.ok (.tuple #[]) (W1.setCells b (off+(i+(n-j))*5) (Builtin.zeroCells (Value.agg #[.string ⟨#[]⟩,.string ⟨#[]⟩,.int .i64 0,.int .i64 0,.int .i64 0]).cells (n-(i+(n-j)))).toList):=fun ty=>
   run_clear_k W1 51 125 ty _ t24 hv9 b _ _ _ (by omega) (hZ1 _) (fun k hk=>by
    rw[hZl] at hk;rw[hW1];refine isSome_setK b _ _ _ (fun t ht=>?_) _ ?_
    ·rw[hlen] at ht;rw[Nat.add_assoc];exact hcell _ (by omega)
    ·rw[Nat.add_assoc];exact hcell _ (by omega)) (fun k=>by rw[hW1,World.frozen?_setCells];exact hfz k)
  have hW:Hid (W1=w.drew.setCells b (off+i*5) news):=hW1;have X:Hid (news=cs.drop (j*5)):=hnews;have Y1:=hZl (n-(i+(n-j)));have Y2:=hZ1 (n-(i+(n-j)));obtain⟨ZS,hZS⟩:∃ZS,ZS=(Builtin.zeroCells (Value.agg #[.string ⟨#[]⟩,.string ⟨#[]⟩,.int .i64 0,.int .i64 0,.int .i64 0]).cells (n-(i+(n-j)))).toList:=⟨_,rfl⟩;rw[←hZS] at hcl2 Y1 Y2;have Y1h:Hid (ZS.length=(n-(i+(n-j)))*5):=Y1;have Y2h:Hid (∀v∈ZS,v.oneCell'=true):=Y2;have hic:i≤c:=by omega
  have hjc:j≤c:=by omega
  have heq:¬((i:Int)=(j:Int)):=by omega
  clear hW1 hnews hlen Y1 Y2 hZS hZl hZ1 hcell hcs hcl h1c
  go_enter Tryz.func180,Tryz.ntmps180
  go_wp2_with fail
  go_region_law_o (refine step_append_room rfl (.tmp 22) (.tmp 25) 51 rfl 125 i0 5 t24 hi0 hzs b off i c (by simp[Act.eval,Act.put]) A (n-j) (c-j) news (by (simp[Act.eval,Act.put])<;>simpa using hA) s1.out hsrc.out s2.out (by omega) s3.out ?_;rw[←hW.out])
  go_wp2
  go_ret
  refine⟨by rw[show n-(j-i)=i+(n-j) by omega];rfl,w.drew.drawn,ZS,?_,Y2h.out,?_⟩
  ·rw[Y1h.out];congr 1;omega
  ·rw[←X.out,show n-(j-i)=i+(n-j) by omega];have:({w with drawn:=w.drew.drawn}:World)=w.drew:=rfl;rw[this,←hW.out]
def insB293:=And.intro Tryz.underlying297 (And.intro Tryz.underlying53 (And.intro Tryz.isAgg297 (And.intro Tryz.isAgg53 (And.intro Tryz.sizeOf297 (And.intro Tryz.sizeOf53 (And.intro Tryz.zeroValue53 ((run_underlying Tryz.underlying53))))))))
theorem delC293:DelC Tryz.prog 293 5 where
 ent:=⟨Tryz.f293,Tryz.func293,by kernel_rfl,by kernel_rfl⟩
 pos:=by decide
 nothing:=by
  intro base n c i w hnc hi hnil;obtain⟨t0,t3,t4,a0,a3,a4,z0,z3,z4,v0,v3,v4,u0,u3,u4⟩:=insB;obtain⟨t9,t24,a9,a24,z9,z24,v24,u24⟩:=insB293;have mixed:Tryz.prog.follows .mixedOrders=true:=by kernel_rfl
  go_enter Tryz.func293,Tryz.ntmps293
  cases base with
  |none=>
   have h0:=hnil rfl;subst h0;have hi0:i=0:=by omega
   subst hi0
   go_wp2
   all_goals (go_ret;exact⟨rfl,rfl⟩)
  |some a=>
   obtain⟨ab,ao,asp⟩:=a
   go_wp2
   all_goals (go_ret;exact⟨rfl,rfl⟩)
 cut:=by
  intro b off n c i j cs w hij hj hnc hlim hcl hcs hfz h1c;obtain⟨t0,t3,t4,a0,a3,a4,z0,z3,z4,v0,v3,v4,u0,u3,u4⟩:=insB;obtain⟨t9,t24,a9,a24,z9,z24,v24,u24⟩:=insB293;have mixed:Tryz.prog.follows .mixedOrders=true:=by kernel_rfl
  obtain⟨i0,hi0,hzs,hzb⟩:∃i0,Tryz.prog.info? 297=some i0∧i0.size=5∧i0.bytes=40:=⟨_,rfl,rfl,rfl⟩;have hv9:∀w,(zeroValue 297).run Tryz.prog w=.ok (Value.agg #[.int .i64 0,.int .i64 0,.int .i64 0,.int .i64 0,.int .i64 0]) w:=Tryz.zeroValue297;obtain⟨news,hnews⟩:∃news,news=cs.drop (j*5):=⟨_,rfl⟩;have hlen:news.length=(n-j)*5:=by rw[hnews,List.length_drop,hcl];omega
  obtain⟨A,hA,hsrc⟩:∃A:Addr,(if c=j then some (⟨b,off,none⟩:Addr) else some ⟨b,off+j*5,none⟩)=some A∧Hid (∀t u,news[t]?=some u→w.drew.cell? (A.add t)=some u):=by
   by_cases h:c=j
   ·refine⟨⟨b,off,none⟩,by simp[h],fun t u hu=>?_⟩;have h0:news.length=0:=by rw[hlen];omega
    rw[List.length_eq_zero_iff.1 h0] at hu;simp at hu
   ·refine⟨⟨b,off+j*5,none⟩,by simp[h],fun t u hu=>?_⟩;rw[Addr.add_lit,Nat.add_assoc];refine hcs (j*5+t) u ?_;rw[hnews,List.getElem?_drop] at hu;exact hu
  have s1:Hid (news.length=(n-j)*5):=hlen;have s2:Hid (∀u∈news,u.oneCell'=true):=fun u hu=>h1c u (List.mem_of_mem_drop (hnews▸hu));have hcell:∀k,k<n*5→(w.cell? ⟨b,off+k,none⟩).isSome=true:=fun k hk=>by
   have hk':k<cs.length:=by omega
   rw[hcs k cs[k] (by simp)];rfl
  have s3:Hid (∀t,t<news.length→(w.drew.cell? ⟨b,off+i*5+t,none⟩).isSome=true∧w.drew.frozen? ⟨b,off+i*5+t,none⟩=false):=by
   intro t ht;rw[hlen] at ht;rw[Nat.add_assoc];exact⟨hcell _ (by omega),hfz _⟩
  obtain⟨W1,hW1⟩:∃W1,W1=w.drew.setCells b (off+i*5) news:=⟨_,rfl⟩;have hZl:∀k,(Builtin.zeroCells (Value.agg #[.int .i64 0,.int .i64 0,.int .i64 0,.int .i64 0,.int .i64 0]).cells k).toList.length=k*5:=fun k=>by simp[Builtin.zeroCells,Value.cells]
  have hZ1:∀k,∀v∈(Builtin.zeroCells (Value.agg #[.int .i64 0,.int .i64 0,.int .i64 0,.int .i64 0,.int .i64 0]).cells k).toList,v.oneCell'=true:=fun k v hv=>zero_one (by decide) hv;have hcl2:∀ty,(Builtin.clear_ #[53] ty #[.slice (some ⟨b,off+(i+(n-j))*5,none⟩) (n-(i+(n-j))) (c-(i+(n-j)))]).run Tryz.prog W1=.ok (.tuple #[]) (W1.setCells b (off+(i+(n-j))*5) (Builtin.zeroCells (Value.agg #[.int .i64 0,.int .i64 0,.int .i64 0,.int .i64 0,.int .i64 0]).cells (n-(i+(n-j)))).toList):=fun ty=>
   run_clear_k W1 53 297 ty _ t24 hv9 b _ _ _ (by omega) (hZ1 _) (fun k hk=>by
    rw[hZl] at hk;rw[hW1];refine isSome_setK b _ _ _ (fun t ht=>?_) _ ?_
    ·rw[hlen] at ht;rw[Nat.add_assoc];exact hcell _ (by omega)
    ·rw[Nat.add_assoc];exact hcell _ (by omega)) (fun k=>by rw[hW1,World.frozen?_setCells];exact hfz k)
  have hW:Hid (W1=w.drew.setCells b (off+i*5) news):=hW1;have X:Hid (news=cs.drop (j*5)):=hnews;have Y1:=hZl (n-(i+(n-j)));have Y2:=hZ1 (n-(i+(n-j)));obtain⟨ZS,hZS⟩:∃ZS,ZS=(Builtin.zeroCells (Value.agg #[.int .i64 0,.int .i64 0,.int .i64 0,.int .i64 0,.int .i64 0]).cells (n-(i+(n-j)))).toList:=⟨_,rfl⟩;rw[←hZS] at hcl2 Y1 Y2;have Y1h:Hid (ZS.length=(n-(i+(n-j)))*5):=Y1;have Y2h:Hid (∀v∈ZS,v.oneCell'=true):=Y2;have hic:i≤c:=by omega
  have hjc:j≤c:=by omega
  have heq:¬((i:Int)=(j:Int)):=by omega
  clear hW1 hnews hlen Y1 Y2 hZS hZl hZ1 hcell hcs hcl h1c
  go_enter Tryz.func293,Tryz.ntmps293
  go_wp2_with fail
  go_region_law_o (refine step_append_room rfl (.tmp 22) (.tmp 25) 53 rfl 297 i0 5 t24 hi0 hzs b off i c (by simp[Act.eval,Act.put]) A (n-j) (c-j) news (by (simp[Act.eval,Act.put])<;>simpa using hA) s1.out hsrc.out s2.out (by omega) s3.out ?_;rw[←hW.out])
  go_wp2
  go_ret
  refine⟨by rw[show n-(j-i)=i+(n-j) by omega];rfl,w.drew.drawn,ZS,?_,Y2h.out,?_⟩
  ·rw[Y1h.out];congr 1;omega
  ·rw[←X.out,show n-(j-i)=i+(n-j) by omega];have:({w with drawn:=w.drew.drawn}:World)=w.drew:=rfl;rw[this,←hW.out]
def insB302:=And.intro Tryz.underlying3 (And.intro Tryz.underlying26 (And.intro Tryz.isAgg3 (And.intro Tryz.isAgg26 (And.intro Tryz.sizeOf3 (And.intro Tryz.sizeOf26 (And.intro Tryz.zeroValue26 ((run_underlying Tryz.underlying26))))))))
theorem delC302:DelC Tryz.prog 302 1 where
 ent:=⟨Tryz.f302,Tryz.func302,by kernel_rfl,by kernel_rfl⟩
 pos:=by decide
 nothing:=by
  intro base n c i w hnc hi hnil;obtain⟨t0,t3,t4,a0,a3,a4,z0,z3,z4,v0,v3,v4,u0,u3,u4⟩:=insB;obtain⟨t9,t24,a9,a24,z9,z24,v24,u24⟩:=insB302;have mixed:Tryz.prog.follows .mixedOrders=true:=by kernel_rfl
  go_enter Tryz.func302,Tryz.ntmps302
  cases base with
  |none=>
   have h0:=hnil rfl;subst h0;have hi0:i=0:=by omega
   subst hi0
   go_wp2
   all_goals (go_ret;exact⟨rfl,rfl⟩)
  |some a=>
   obtain⟨ab,ao,asp⟩:=a
   go_wp2
   all_goals (go_ret;exact⟨rfl,rfl⟩)
 cut:=by
  intro b off n c i j cs w hij hj hnc hlim hcl hcs hfz h1c;obtain⟨t0,t3,t4,a0,a3,a4,z0,z3,z4,v0,v3,v4,u0,u3,u4⟩:=insB;obtain⟨t9,t24,a9,a24,z9,z24,v24,u24⟩:=insB302;have mixed:Tryz.prog.follows .mixedOrders=true:=by kernel_rfl
  obtain⟨i0,hi0,hzs,hzb⟩:∃i0,Tryz.prog.info? 3=some i0∧i0.size=1∧i0.bytes=8:=⟨_,rfl,rfl,rfl⟩;have hv9:∀w,(zeroValue 3).run Tryz.prog w=.ok (Value.int .i64 0) w:=Tryz.zeroValue3;obtain⟨news,hnews⟩:∃news,news=cs.drop (j*1):=⟨_,rfl⟩;have hlen:news.length=(n-j)*1:=by rw[hnews,List.length_drop,hcl];omega
  obtain⟨A,hA,hsrc⟩:∃A:Addr,(if c=j then some (⟨b,off,none⟩:Addr) else some ⟨b,off+j*1,none⟩)=some A∧Hid (∀t u,news[t]?=some u→w.drew.cell? (A.add t)=some u):=by
   by_cases h:c=j
   ·refine⟨⟨b,off,none⟩,by simp[h],fun t u hu=>?_⟩;have h0:news.length=0:=by rw[hlen];omega
    rw[List.length_eq_zero_iff.1 h0] at hu;simp at hu
   ·refine⟨⟨b,off+j*1,none⟩,by simp[h],fun t u hu=>?_⟩;rw[Addr.add_lit,Nat.add_assoc];refine hcs (j*1+t) u ?_;rw[hnews,List.getElem?_drop] at hu;exact hu
  have s1:Hid (news.length=(n-j)*1):=hlen;have s2:Hid (∀u∈news,u.oneCell'=true):=fun u hu=>h1c u (List.mem_of_mem_drop (hnews▸hu));have hcell:∀k,k<n*1→(w.cell? ⟨b,off+k,none⟩).isSome=true:=fun k hk=>by
   have hk':k<cs.length:=by omega
   rw[hcs k cs[k] (by simp)];rfl
  have s3:Hid (∀t,t<news.length→(w.drew.cell? ⟨b,off+i*1+t,none⟩).isSome=true∧w.drew.frozen? ⟨b,off+i*1+t,none⟩=false):=by
   intro t ht;rw[hlen] at ht;rw[Nat.add_assoc];exact⟨hcell _ (by omega),hfz _⟩
  obtain⟨W1,hW1⟩:∃W1,W1=w.drew.setCells b (off+i*1) news:=⟨_,rfl⟩;have hZl:∀k,(Builtin.zeroCells (Value.int .i64 0).cells k).toList.length=k*1:=fun k=>by simp[Builtin.zeroCells,Value.cells]
  have hZ1:∀k,∀v∈(Builtin.zeroCells (Value.int .i64 0).cells k).toList,v.oneCell'=true:=fun k v hv=>zero_one (by decide) hv;have hcl2:∀ty,(Builtin.clear_ #[26] ty #[.slice (some ⟨b,off+(i+(n-j))*1,none⟩) (n-(i+(n-j))) (c-(i+(n-j)))]).run Tryz.prog W1=.ok (.tuple #[]) (W1.setCells b (off+(i+(n-j))*1) (Builtin.zeroCells (Value.int .i64 0).cells (n-(i+(n-j)))).toList):=fun ty=>
   run_clear_k W1 26 3 ty _ t24 hv9 b _ _ _ (by omega) (hZ1 _) (fun k hk=>by
    rw[hZl] at hk;rw[hW1];refine isSome_setK b _ _ _ (fun t ht=>?_) _ ?_
    ·rw[hlen] at ht;rw[Nat.add_assoc];exact hcell _ (by omega)
    ·rw[Nat.add_assoc];exact hcell _ (by omega)) (fun k=>by rw[hW1,World.frozen?_setCells];exact hfz k)
  have hW:Hid (W1=w.drew.setCells b (off+i*1) news):=hW1;have X:Hid (news=cs.drop (j*1)):=hnews;have Y1:=hZl (n-(i+(n-j)));have Y2:=hZ1 (n-(i+(n-j)));obtain⟨ZS,hZS⟩:∃ZS,ZS=(Builtin.zeroCells (Value.int .i64 0).cells (n-(i+(n-j)))).toList:=⟨_,rfl⟩;rw[←hZS] at hcl2 Y1 Y2;simp only[Nat.mul_one] at hcl2;have Y1h:Hid (ZS.length=(n-(i+(n-j)))*1):=Y1;have Y2h:Hid (∀v∈ZS,v.oneCell'=true):=Y2;have hic:i≤c:=by omega
  have hjc:j≤c:=by omega
  have heq:¬((i:Int)=(j:Int)):=by omega
  clear hW1 hnews hlen Y1 Y2 hZS hZl hZ1 hcell hcs hcl h1c
  go_enter Tryz.func302,Tryz.ntmps302
  go_wp2_with fail
  go_region_law_o (refine step_append_room rfl (.tmp 22) (.tmp 25) 26 rfl 3 i0 1 t24 hi0 hzs b off i c (by simp[Act.eval,Act.put]) A (n-j) (c-j) news (by (simp[Act.eval,Act.put])<;>simpa using hA) s1.out hsrc.out s2.out (by omega) s3.out ?_;rw[←hW.out])
  go_wp2
  all_goals
   go_ret
   refine⟨by rw[show n-(j-i)=i+(n-j) by omega];rfl,w.drew.drawn,ZS,?_,Y2h.out,?_⟩
   ·have hY:=Y1h.out
    simp only[Nat.mul_one] at hY ⊢
    omega
   ·have hX:=X.out
    have hw:=hW.out
    simp only[Nat.mul_one] at hX hw ⊢
    rw[←hX,show n-(j-i)=i+(n-j) by omega]
    have:({w with drawn:=w.drew.drawn}:World)=w.drew:=rfl
    rw[this,←hw]
def insB316:=And.intro Tryz.underlying173 (And.intro Tryz.underlying59 (And.intro Tryz.isAgg173 (And.intro Tryz.isAgg59 (And.intro Tryz.sizeOf173 (And.intro Tryz.sizeOf59 (And.intro Tryz.zeroValue59 ((run_underlying Tryz.underlying59))))))))
theorem insC316:InsC Tryz.prog 316 7 59 173 where
 ent:=⟨Tryz.f316,Tryz.func316,by kernel_rfl,by kernel_rfl⟩
 hS:=Tryz.underlying59
 hz:=by kernel_rfl
 pos:=by decide
 info:=⟨_,(Value.agg #[.int .i64 0,.int .i64 0,.int .i64 0,.int .i64 0,.int .i64 0,.int .i64 0,.int .i64 0]),rfl,by decide,rfl,rfl⟩
 nothing:=by
  intro base n c i vc vb w hnc hi hnil;obtain⟨t0,t3,t4,a0,a3,a4,z0,z3,z4,v0,v3,v4,u0,u3,u4⟩:=insB;obtain⟨t9,t24,a9,a24,z9,z24,v24,u24⟩:=insB316;have mixed:Tryz.prog.follows .mixedOrders=true:=by kernel_rfl
  go_enter Tryz.func316,Tryz.ntmps316
  cases base with
  |none=>
   have h0:=hnil rfl;subst h0;have hi0:i=0:=by omega
   subst hi0
   go_wp2
   all_goals (go_ret;exact⟨rfl,rfl⟩)
  |some a=>
   obtain⟨ab,ao,asp⟩:=a
   go_wp2
   all_goals (go_ret;exact⟨rfl,rfl⟩)
 end_:=by
  intro base n c m vc vb w w' q hm hnc hlim hnil hrun;obtain⟨t0,t3,t4,a0,a3,a4,z0,z3,z4,v0,v3,v4,u0,u3,u4⟩:=insB;obtain⟨t9,t24,a9,a24,z9,z24,v24,u24⟩:=insB316;have mixed:Tryz.prog.follows .mixedOrders=true:=by kernel_rfl
  have hz1:¬((m:Int)=0):=by omega
  go_enter Tryz.func316,Tryz.ntmps316
  cases base with
  |none=>
   have h0:=hnil rfl;subst h0
   go_wp2_with (at_builtin;refine Lib.wpList_append_run _ rfl _ _ _ _ rfl _ _ rfl rfl _ _ hrun ?_)
   all_goals (go_ret;exact⟨rfl,rfl⟩)
  |some a=>
   obtain⟨ab,ao,asp⟩:=a
   go_wp2_with (at_builtin;refine Lib.wpList_append_run _ rfl _ _ _ _ rfl _ _ rfl rfl _ _ hrun ?_)
   all_goals (go_ret;exact⟨rfl,rfl⟩)
 shift:=by
  intro b off n c i vb voff m vc cs vs w hi hm hroom hlim hvb hcl hvl hcs hsp hfz hvs h1c h1v tA tB kA kB hsa hsb hkA;obtain⟨t0,t3,t4,a0,a3,a4,z0,z3,z4,v0,v3,v4,u0,u3,u4⟩:=insB;obtain⟨t9,t24,a9,a24,z9,z24,v24,u24⟩:=insB316;have hz1:¬((m:Int)=0):=by omega
  have hz2:¬((i:Int)=(n:Int)):=by omega
  have hsz:(Tryz.prog.info? 173).map (·.size)=some 7:=by kernel_rfl
  have hov:∀lb cb,(callFunc 321 #[.slice (some ⟨vb,voff,none⟩) m vc,.slice (some ⟨b,off+(i+m)*7,none⟩) lb cb]).run Tryz.prog w=.ok (.value (.bool false)) w:=fun lb cb=>by
   rw[run_callFunc_extern Tryz.func321 (by kernel_rfl) (by kernel_rfl) (by kernel_rfl) (e:=Extern.SlicesOverlaps.overlaps #[59,59] #[4]) (by kernel_rfl),
    run_overlaps_k w 59 4 173 t24 7 z9 ⟨vb,voff,none⟩ ⟨b,off+(i+m)*7,none⟩ m vc lb cb hvb tA tB kA kB hsa hsb hkA (hfz _) (hfz _)]
   rfl
  have mixed:Tryz.prog.follows .mixedOrders=true:=by kernel_rfl
  have hw1:IntKind.i64.wrap ((i:Int)+(m:Int))=(i:Int)+(m:Int):=by rw[IntKind.wrap_i64];omega
  have hb1:(0:Int)≤(i:Int)+(m:Int):=by omega
  have hin:i≤n:=by omega
  have htn:((i:Int)+(m:Int)).toNat=i+m:=by omega
  have hb2:¬(c=i+m):=by omega
  have hb3:(i:Int)≤(n:Int)+(m:Int):=by omega
  have hb4:¬(c=i):=by omega
  obtain⟨W1,hW1,hcp1,hcp2⟩:=ins_p1 t24 hsz b off n c i vb voff m vc cs vs w hi hm hvb hcl hvl hcs hsp hfz hvs h1c h1v
  go_enter Tryz.func316,Tryz.ntmps316
  go_wp2_with (simp only[hov])
  go_region_law_o (refine step_copy_k rfl _ _ 59 59 rfl _ _ (by simp[Act.eval,Act.put]) (by simp[Act.eval,Act.put]) (hcp1 _ _ _) ?_)
  go_wp2_with (at_builtin;refine wpList_copy_k _ rfl _ _ 59 59 rfl _ _ rfl rfl (hcp2 _ (fun _=>rfl) (fun _=>rfl) _ _) ?_)
  go_ret
  first|exact⟨rfl,rfl⟩|exact⟨rfl,by rw[hW1]⟩
 grow:=by
  intro b off n c i vb voff m vc cs vs w hi hm hnc hroom hlim hcl hvl hbw hvw hcs hvs h1c h1v;obtain⟨t0,t3,t4,a0,a3,a4,z0,z3,z4,v0,v3,v4,u0,u3,u4⟩:=insB;obtain⟨t9,t24,a9,a24,z9,z24,v24,u24⟩:=insB316;have mixed:Tryz.prog.follows .mixedOrders=true:=by kernel_rfl
  obtain⟨i0,hi0,hz0,hzs,hzb⟩:∃i0,Tryz.prog.info? 173=some i0∧i0.zero=some (Value.agg #[.int .i64 0,.int .i64 0,.int .i64 0,.int .i64 0,.int .i64 0,.int .i64 0,.int .i64 0])∧i0.size=7∧i0.bytes=56:=⟨_,rfl,rfl,rfl,rfl⟩;have hz1:¬((m:Int)=0):=by omega
  have hz2:¬((i:Int)=(n:Int)):=by omega
  have hz3:(c:Int)<(n:Int)+(m:Int):=by omega
  obtain⟨G,ROW,hGn,hRl,hRs,hRt,hG63,hrz,hcpA,hcpB⟩:=ins_p2 t24 t3 i0 (Value.agg #[.int .i64 0,.int .i64 0,.int .i64 0,.int .i64 0,.int .i64 0,.int .i64 0,.int .i64 0]) hi0 hz0 hzs (by decide) (by rw[hzb];decide) (fun k=>by simp[Builtin.zeroCells,Value.cells]) b off n c i vb voff m vc cs vs w hi hm hnc hroom hlim hcl hvl hbw hvw hcs hvs h1c h1v;have hGi:¬(G=i):=by omega
  have hGim:¬(G=i+m):=by omega
  have hci:¬(c=i):=by omega
  have hE1:∀x,((w.alloc (.cells ROW 173)).drew).cell? x=(w.drew.alloc (.cells ROW 173)).cell? x:=fun x=>rfl;have hE2:∀x,((w.alloc (.cells ROW 173)).drew).frozen? x=(w.drew.alloc (.cells ROW 173)).frozen? x:=fun x=>rfl;have hF1:∀x,(((w.alloc (.cells ROW 173)).drew.setCells w.heap.size (i*7) vs).drew).cell? x=((w.drew.alloc (.cells ROW 173)).setCells w.heap.size (i*7) vs).cell? x:=fun x=>rfl;have hF2:∀x,(((w.alloc (.cells ROW 173)).drew.setCells w.heap.size (i*7) vs).drew).frozen? x=((w.drew.alloc (.cells ROW 173)).setCells w.heap.size (i*7) vs).frozen? x:=fun x=>rfl;have hw1:IntKind.i64.wrap ((i:Int)+(m:Int))=(i:Int)+(m:Int):=by rw[IntKind.wrap_i64];omega
  have hb1:(0:Int)≤(i:Int)+(m:Int):=by omega
  have hin:i≤n:=by omega
  have htn:((i:Int)+(m:Int)).toNat=i+m:=by omega
  have hb3:(i:Int)≤(n:Int):=by omega
  go_enter Tryz.func316,Tryz.ntmps316
  go_wp2_with (first
   |(at_builtin;refine Lib.wpList_append_run _ rfl _ _ _ _ rfl _ _ rfl rfl _ _ (hrz _) ?_)
   |(at_builtin;refine wpList_copy_k _ rfl _ _ 59 59 rfl _ _ rfl rfl (hcpA _ hE1 hE2 _ _) ?_)
   |(at_builtin;refine wpList_copy_k _ rfl _ _ 59 59 rfl _ _ rfl rfl (hcpB _ (fun _=>rfl) (fun _=>rfl) _ _ _) ?_))
  go_region_law_o (refine step_copy_k rfl _ _ 59 59 rfl (.slice (some ⟨w.heap.size,(i+m)*7,none⟩) (n+m-(i+m)) (G-(i+m))) (.slice (some ⟨b,off+i*7,none⟩) (n-i) (c-i)) (by simp[Act.eval,Act.put]) (by simp[Act.eval,Act.put]) (hcpB _ hF1 hF2 3 (G-(i+m)) (c-i)) ?_)
  go_wp2
  go_ret
  exact⟨G,ROW,w.drew.drew.drawn,hGn,hRl,hRs,hRt,rfl,by first|rfl|(rw[drew_setK];rfl)|(simp only[drew_setK];rfl)⟩
def insB383:=And.intro Tryz.underlying165 (And.intro Tryz.underlying48 (And.intro Tryz.isAgg165 (And.intro Tryz.isAgg48 (And.intro Tryz.sizeOf165 (And.intro Tryz.sizeOf48 (And.intro Tryz.zeroValue48 ((run_underlying Tryz.underlying48))))))))
theorem insC383:InsC Tryz.prog 383 9 48 165 where
 ent:=⟨Tryz.f383,Tryz.func383,by kernel_rfl,by kernel_rfl⟩
 hS:=Tryz.underlying48
 hz:=by kernel_rfl
 pos:=by decide
 info:=⟨_,(Value.agg #[.int .i64 0,.int .i64 0,.int .i64 0,.slice none 0 0,.int .i64 0,.string ⟨#[]⟩,.string ⟨#[]⟩,.slice none 0 0,.slice none 0 0]),rfl,by decide,rfl,rfl⟩
 nothing:=by
  intro base n c i vc vb w hnc hi hnil;obtain⟨t0,t3,t4,a0,a3,a4,z0,z3,z4,v0,v3,v4,u0,u3,u4⟩:=insB;obtain⟨t9,t24,a9,a24,z9,z24,v24,u24⟩:=insB383;have mixed:Tryz.prog.follows .mixedOrders=true:=by kernel_rfl
  go_enter Tryz.func383,Tryz.ntmps383
  cases base with
  |none=>
   have h0:=hnil rfl;subst h0;have hi0:i=0:=by omega
   subst hi0
   go_wp2
   all_goals (go_ret;exact⟨rfl,rfl⟩)
  |some a=>
   obtain⟨ab,ao,asp⟩:=a
   go_wp2
   all_goals (go_ret;exact⟨rfl,rfl⟩)
 end_:=by
  intro base n c m vc vb w w' q hm hnc hlim hnil hrun;obtain⟨t0,t3,t4,a0,a3,a4,z0,z3,z4,v0,v3,v4,u0,u3,u4⟩:=insB;obtain⟨t9,t24,a9,a24,z9,z24,v24,u24⟩:=insB383;have mixed:Tryz.prog.follows .mixedOrders=true:=by kernel_rfl
  have hz1:¬((m:Int)=0):=by omega
  go_enter Tryz.func383,Tryz.ntmps383
  cases base with
  |none=>
   have h0:=hnil rfl;subst h0
   go_wp2_with (at_builtin;refine Lib.wpList_append_run _ rfl _ _ _ _ rfl _ _ rfl rfl _ _ hrun ?_)
   all_goals (go_ret;exact⟨rfl,rfl⟩)
  |some a=>
   obtain⟨ab,ao,asp⟩:=a
   go_wp2_with (at_builtin;refine Lib.wpList_append_run _ rfl _ _ _ _ rfl _ _ rfl rfl _ _ hrun ?_)
   all_goals (go_ret;exact⟨rfl,rfl⟩)
 shift:=by
  intro b off n c i vb voff m vc cs vs w hi hm hroom hlim hvb hcl hvl hcs hsp hfz hvs h1c h1v tA tB kA kB hsa hsb hkA;obtain⟨t0,t3,t4,a0,a3,a4,z0,z3,z4,v0,v3,v4,u0,u3,u4⟩:=insB;obtain⟨t9,t24,a9,a24,z9,z24,v24,u24⟩:=insB383;have hz1:¬((m:Int)=0):=by omega
  have hz2:¬((i:Int)=(n:Int)):=by omega
  have hsz:(Tryz.prog.info? 165).map (·.size)=some 9:=by kernel_rfl
  have hov:∀lb cb,(callFunc 404 #[.slice (some ⟨vb,voff,none⟩) m vc,.slice (some ⟨b,off+(i+m)*9,none⟩) lb cb]).run Tryz.prog w=.ok (.value (.bool false)) w:=fun lb cb=>by
   rw[run_callFunc_extern Tryz.func404 (by kernel_rfl) (by kernel_rfl) (by kernel_rfl) (e:=Extern.SlicesOverlaps.overlaps #[48,48] #[4]) (by kernel_rfl),
    run_overlaps_k w 48 4 165 t24 9 z9 ⟨vb,voff,none⟩ ⟨b,off+(i+m)*9,none⟩ m vc lb cb hvb tA tB kA kB hsa hsb hkA (hfz _) (hfz _)]
   rfl
  have mixed:Tryz.prog.follows .mixedOrders=true:=by kernel_rfl
  have hw1:IntKind.i64.wrap ((i:Int)+(m:Int))=(i:Int)+(m:Int):=by rw[IntKind.wrap_i64];omega
  have hb1:(0:Int)≤(i:Int)+(m:Int):=by omega
  have hin:i≤n:=by omega
  have htn:((i:Int)+(m:Int)).toNat=i+m:=by omega
  have hb2:¬(c=i+m):=by omega
  have hb3:(i:Int)≤(n:Int)+(m:Int):=by omega
  have hb4:¬(c=i):=by omega
  obtain⟨W1,hW1,hcp1,hcp2⟩:=ins_p1 t24 hsz b off n c i vb voff m vc cs vs w hi hm hvb hcl hvl hcs hsp hfz hvs h1c h1v
  go_enter Tryz.func383,Tryz.ntmps383
  go_wp2_with (simp only[hov])
  go_region_law_o (refine step_copy_k rfl _ _ 48 48 rfl _ _ (by simp[Act.eval,Act.put]) (by simp[Act.eval,Act.put]) (hcp1 _ _ _) ?_)
  go_wp2_with (at_builtin;refine wpList_copy_k _ rfl _ _ 48 48 rfl _ _ rfl rfl (hcp2 _ (fun _=>rfl) (fun _=>rfl) _ _) ?_)
  go_ret
  first|exact⟨rfl,rfl⟩|exact⟨rfl,by rw[hW1]⟩
 grow:=by
  intro b off n c i vb voff m vc cs vs w hi hm hnc hroom hlim hcl hvl hbw hvw hcs hvs h1c h1v;obtain⟨t0,t3,t4,a0,a3,a4,z0,z3,z4,v0,v3,v4,u0,u3,u4⟩:=insB;obtain⟨t9,t24,a9,a24,z9,z24,v24,u24⟩:=insB383;have mixed:Tryz.prog.follows .mixedOrders=true:=by kernel_rfl
  obtain⟨i0,hi0,hz0,hzs,hzb⟩:∃i0,Tryz.prog.info? 165=some i0∧i0.zero=some (Value.agg #[.int .i64 0,.int .i64 0,.int .i64 0,.slice none 0 0,.int .i64 0,.string ⟨#[]⟩,.string ⟨#[]⟩,.slice none 0 0,.slice none 0 0])∧i0.size=9∧i0.bytes=136:=⟨_,rfl,rfl,rfl,rfl⟩;have hz1:¬((m:Int)=0):=by omega
  have hz2:¬((i:Int)=(n:Int)):=by omega
  have hz3:(c:Int)<(n:Int)+(m:Int):=by omega
  obtain⟨G,ROW,hGn,hRl,hRs,hRt,hG63,hrz,hcpA,hcpB⟩:=ins_p2 t24 t3 i0 (Value.agg #[.int .i64 0,.int .i64 0,.int .i64 0,.slice none 0 0,.int .i64 0,.string ⟨#[]⟩,.string ⟨#[]⟩,.slice none 0 0,.slice none 0 0]) hi0 hz0 hzs (by decide) (by rw[hzb];decide) (fun k=>by simp[Builtin.zeroCells,Value.cells]) b off n c i vb voff m vc cs vs w hi hm hnc hroom hlim hcl hvl hbw hvw hcs hvs h1c h1v;have hGi:¬(G=i):=by omega
  have hGim:¬(G=i+m):=by omega
  have hci:¬(c=i):=by omega
  have hE1:∀x,((w.alloc (.cells ROW 165)).drew).cell? x=(w.drew.alloc (.cells ROW 165)).cell? x:=fun x=>rfl;have hE2:∀x,((w.alloc (.cells ROW 165)).drew).frozen? x=(w.drew.alloc (.cells ROW 165)).frozen? x:=fun x=>rfl;have hF1:∀x,(((w.alloc (.cells ROW 165)).drew.setCells w.heap.size (i*9) vs).drew).cell? x=((w.drew.alloc (.cells ROW 165)).setCells w.heap.size (i*9) vs).cell? x:=fun x=>rfl;have hF2:∀x,(((w.alloc (.cells ROW 165)).drew.setCells w.heap.size (i*9) vs).drew).frozen? x=((w.drew.alloc (.cells ROW 165)).setCells w.heap.size (i*9) vs).frozen? x:=fun x=>rfl;have hw1:IntKind.i64.wrap ((i:Int)+(m:Int))=(i:Int)+(m:Int):=by rw[IntKind.wrap_i64];omega
  have hb1:(0:Int)≤(i:Int)+(m:Int):=by omega
  have hin:i≤n:=by omega
  have htn:((i:Int)+(m:Int)).toNat=i+m:=by omega
  have hb3:(i:Int)≤(n:Int):=by omega
  go_enter Tryz.func383,Tryz.ntmps383
  go_wp2_with (first
   |(at_builtin;refine Lib.wpList_append_run _ rfl _ _ _ _ rfl _ _ rfl rfl _ _ (hrz _) ?_)
   |(at_builtin;refine wpList_copy_k _ rfl _ _ 48 48 rfl _ _ rfl rfl (hcpA _ hE1 hE2 _ _) ?_)
   |(at_builtin;refine wpList_copy_k _ rfl _ _ 48 48 rfl _ _ rfl rfl (hcpB _ (fun _=>rfl) (fun _=>rfl) _ _ _) ?_))
  go_region_law_o (refine step_copy_k rfl _ _ 48 48 rfl (.slice (some ⟨w.heap.size,(i+m)*9,none⟩) (n+m-(i+m)) (G-(i+m))) (.slice (some ⟨b,off+i*9,none⟩) (n-i) (c-i)) (by simp[Act.eval,Act.put]) (by simp[Act.eval,Act.put]) (hcpB _ hF1 hF2 3 (G-(i+m)) (c-i)) ?_)
  go_wp2
  go_ret
  exact⟨G,ROW,w.drew.drew.drawn,hGn,hRl,hRs,hRt,rfl,by first|rfl|(rw[drew_setK];rfl)|(simp only[drew_setK];rfl)⟩
def insB324:=And.intro Tryz.underlying297 (And.intro Tryz.underlying53 (And.intro Tryz.isAgg297 (And.intro Tryz.isAgg53 (And.intro Tryz.sizeOf297 (And.intro Tryz.sizeOf53 (And.intro Tryz.zeroValue53 ((run_underlying Tryz.underlying53))))))))
theorem insC324:InsC Tryz.prog 324 5 53 297 where
 ent:=⟨Tryz.f324,Tryz.func324,by kernel_rfl,by kernel_rfl⟩
 hS:=Tryz.underlying53
 hz:=by kernel_rfl
 pos:=by decide
 info:=⟨_,(Value.agg #[.int .i64 0,.int .i64 0,.int .i64 0,.int .i64 0,.int .i64 0]),rfl,by decide,rfl,rfl⟩
 nothing:=by
  intro base n c i vc vb w hnc hi hnil;obtain⟨t0,t3,t4,a0,a3,a4,z0,z3,z4,v0,v3,v4,u0,u3,u4⟩:=insB;obtain⟨t9,t24,a9,a24,z9,z24,v24,u24⟩:=insB324;have mixed:Tryz.prog.follows .mixedOrders=true:=by kernel_rfl
  go_enter Tryz.func324,Tryz.ntmps324
  cases base with
  |none=>
   have h0:=hnil rfl;subst h0;have hi0:i=0:=by omega
   subst hi0
   go_wp2
   all_goals (go_ret;exact⟨rfl,rfl⟩)
  |some a=>
   obtain⟨ab,ao,asp⟩:=a
   go_wp2
   all_goals (go_ret;exact⟨rfl,rfl⟩)
 end_:=by
  intro base n c m vc vb w w' q hm hnc hlim hnil hrun;obtain⟨t0,t3,t4,a0,a3,a4,z0,z3,z4,v0,v3,v4,u0,u3,u4⟩:=insB;obtain⟨t9,t24,a9,a24,z9,z24,v24,u24⟩:=insB324;have mixed:Tryz.prog.follows .mixedOrders=true:=by kernel_rfl
  have hz1:¬((m:Int)=0):=by omega
  go_enter Tryz.func324,Tryz.ntmps324
  cases base with
  |none=>
   have h0:=hnil rfl;subst h0
   go_wp2_with (at_builtin;refine Lib.wpList_append_run _ rfl _ _ _ _ rfl _ _ rfl rfl _ _ hrun ?_)
   all_goals (go_ret;exact⟨rfl,rfl⟩)
  |some a=>
   obtain⟨ab,ao,asp⟩:=a
   go_wp2_with (at_builtin;refine Lib.wpList_append_run _ rfl _ _ _ _ rfl _ _ rfl rfl _ _ hrun ?_)
   all_goals (go_ret;exact⟨rfl,rfl⟩)
 shift:=by
  intro b off n c i vb voff m vc cs vs w hi hm hroom hlim hvb hcl hvl hcs hsp hfz hvs h1c h1v tA tB kA kB hsa hsb hkA;obtain⟨t0,t3,t4,a0,a3,a4,z0,z3,z4,v0,v3,v4,u0,u3,u4⟩:=insB;obtain⟨t9,t24,a9,a24,z9,z24,v24,u24⟩:=insB324;have hz1:¬((m:Int)=0):=by omega
  have hz2:¬((i:Int)=(n:Int)):=by omega
  have hsz:(Tryz.prog.info? 297).map (·.size)=some 5:=by kernel_rfl
  have hov:∀lb cb,(callFunc 330 #[.slice (some ⟨vb,voff,none⟩) m vc,.slice (some ⟨b,off+(i+m)*5,none⟩) lb cb]).run Tryz.prog w=.ok (.value (.bool false)) w:=fun lb cb=>by
   rw[run_callFunc_extern Tryz.func330 (by kernel_rfl) (by kernel_rfl) (by kernel_rfl) (e:=Extern.SlicesOverlaps.overlaps #[53,53] #[4]) (by kernel_rfl),
    run_overlaps_k w 53 4 297 t24 5 z9 ⟨vb,voff,none⟩ ⟨b,off+(i+m)*5,none⟩ m vc lb cb hvb tA tB kA kB hsa hsb hkA (hfz _) (hfz _)]
   rfl
  have mixed:Tryz.prog.follows .mixedOrders=true:=by kernel_rfl
  have hw1:IntKind.i64.wrap ((i:Int)+(m:Int))=(i:Int)+(m:Int):=by rw[IntKind.wrap_i64];omega
  have hb1:(0:Int)≤(i:Int)+(m:Int):=by omega
  have hin:i≤n:=by omega
  have htn:((i:Int)+(m:Int)).toNat=i+m:=by omega
  have hb2:¬(c=i+m):=by omega
  have hb3:(i:Int)≤(n:Int)+(m:Int):=by omega
  have hb4:¬(c=i):=by omega
  obtain⟨W1,hW1,hcp1,hcp2⟩:=ins_p1 t24 hsz b off n c i vb voff m vc cs vs w hi hm hvb hcl hvl hcs hsp hfz hvs h1c h1v
  go_enter Tryz.func324,Tryz.ntmps324
  go_wp2_with (simp only[hov])
  go_region_law_o (refine step_copy_k rfl _ _ 53 53 rfl _ _ (by simp[Act.eval,Act.put]) (by simp[Act.eval,Act.put]) (hcp1 _ _ _) ?_)
  go_wp2_with (at_builtin;refine wpList_copy_k _ rfl _ _ 53 53 rfl _ _ rfl rfl (hcp2 _ (fun _=>rfl) (fun _=>rfl) _ _) ?_)
  go_ret
  first|exact⟨rfl,rfl⟩|exact⟨rfl,by rw[hW1]⟩
 grow:=by
  intro b off n c i vb voff m vc cs vs w hi hm hnc hroom hlim hcl hvl hbw hvw hcs hvs h1c h1v;obtain⟨t0,t3,t4,a0,a3,a4,z0,z3,z4,v0,v3,v4,u0,u3,u4⟩:=insB;obtain⟨t9,t24,a9,a24,z9,z24,v24,u24⟩:=insB324;have mixed:Tryz.prog.follows .mixedOrders=true:=by kernel_rfl
  obtain⟨i0,hi0,hz0,hzs,hzb⟩:∃i0,Tryz.prog.info? 297=some i0∧i0.zero=some (Value.agg #[.int .i64 0,.int .i64 0,.int .i64 0,.int .i64 0,.int .i64 0])∧i0.size=5∧i0.bytes=40:=⟨_,rfl,rfl,rfl,rfl⟩;have hz1:¬((m:Int)=0):=by omega
  have hz2:¬((i:Int)=(n:Int)):=by omega
  have hz3:(c:Int)<(n:Int)+(m:Int):=by omega
  obtain⟨G,ROW,hGn,hRl,hRs,hRt,hG63,hrz,hcpA,hcpB⟩:=ins_p2 t24 t3 i0 (Value.agg #[.int .i64 0,.int .i64 0,.int .i64 0,.int .i64 0,.int .i64 0]) hi0 hz0 hzs (by decide) (by rw[hzb];decide) (fun k=>by simp[Builtin.zeroCells,Value.cells]) b off n c i vb voff m vc cs vs w hi hm hnc hroom hlim hcl hvl hbw hvw hcs hvs h1c h1v;have hGi:¬(G=i):=by omega
  have hGim:¬(G=i+m):=by omega
  have hci:¬(c=i):=by omega
  have hE1:∀x,((w.alloc (.cells ROW 297)).drew).cell? x=(w.drew.alloc (.cells ROW 297)).cell? x:=fun x=>rfl;have hE2:∀x,((w.alloc (.cells ROW 297)).drew).frozen? x=(w.drew.alloc (.cells ROW 297)).frozen? x:=fun x=>rfl;have hF1:∀x,(((w.alloc (.cells ROW 297)).drew.setCells w.heap.size (i*5) vs).drew).cell? x=((w.drew.alloc (.cells ROW 297)).setCells w.heap.size (i*5) vs).cell? x:=fun x=>rfl;have hF2:∀x,(((w.alloc (.cells ROW 297)).drew.setCells w.heap.size (i*5) vs).drew).frozen? x=((w.drew.alloc (.cells ROW 297)).setCells w.heap.size (i*5) vs).frozen? x:=fun x=>rfl;have hw1:IntKind.i64.wrap ((i:Int)+(m:Int))=(i:Int)+(m:Int):=by rw[IntKind.wrap_i64];omega
  have hb1:(0:Int)≤(i:Int)+(m:Int):=by omega
  have hin:i≤n:=by omega
  have htn:((i:Int)+(m:Int)).toNat=i+m:=by omega
  have hb3:(i:Int)≤(n:Int):=by omega
  go_enter Tryz.func324,Tryz.ntmps324
  go_wp2_with (first
   |(at_builtin;refine Lib.wpList_append_run _ rfl _ _ _ _ rfl _ _ rfl rfl _ _ (hrz _) ?_)
   |(at_builtin;refine wpList_copy_k _ rfl _ _ 53 53 rfl _ _ rfl rfl (hcpA _ hE1 hE2 _ _) ?_)
   |(at_builtin;refine wpList_copy_k _ rfl _ _ 53 53 rfl _ _ rfl rfl (hcpB _ (fun _=>rfl) (fun _=>rfl) _ _ _) ?_))
  go_region_law_o (refine step_copy_k rfl _ _ 53 53 rfl (.slice (some ⟨w.heap.size,(i+m)*5,none⟩) (n+m-(i+m)) (G-(i+m))) (.slice (some ⟨b,off+i*5,none⟩) (n-i) (c-i)) (by simp[Act.eval,Act.put]) (by simp[Act.eval,Act.put]) (hcpB _ hF1 hF2 3 (G-(i+m)) (c-i)) ?_)
  go_wp2
  go_ret
  exact⟨G,ROW,w.drew.drew.drawn,hGn,hRl,hRs,hRt,rfl,by first|rfl|(rw[drew_setK];rfl)|(simp only[drew_setK];rfl)⟩
def insB414:=And.intro Tryz.underlying137 (And.intro Tryz.underlying128 (And.intro Tryz.isAgg137 (And.intro Tryz.isAgg128 (And.intro Tryz.sizeOf137 (And.intro Tryz.sizeOf128 (And.intro Tryz.zeroValue128 ((run_underlying Tryz.underlying128))))))))
theorem insC414:InsC Tryz.prog 414 17 128 137 where
 ent:=⟨Tryz.f414,Tryz.func414,by kernel_rfl,by kernel_rfl⟩
 hS:=Tryz.underlying128
 hz:=by kernel_rfl
 pos:=by decide
 info:=⟨_,(Value.agg #[.int .i64 0,.int .i64 0,.string ⟨#[]⟩,.string ⟨#[]⟩,.int .i64 0,.slice none 0 0,.int .i64 0,.int .i64 0,.int .i64 0,.int .i64 0,.int .i64 0,.int .i64 0,.slice none 0 0,.int .i64 0,.int .i64 0,.int .i64 0,.int .i64 0]),rfl,by decide,rfl,rfl⟩
 nothing:=by
  intro base n c i vc vb w hnc hi hnil;obtain⟨t0,t3,t4,a0,a3,a4,z0,z3,z4,v0,v3,v4,u0,u3,u4⟩:=insB;obtain⟨t9,t24,a9,a24,z9,z24,v24,u24⟩:=insB414;have mixed:Tryz.prog.follows .mixedOrders=true:=by kernel_rfl
  go_enter Tryz.func414,Tryz.ntmps414
  cases base with
  |none=>
   have h0:=hnil rfl;subst h0;have hi0:i=0:=by omega
   subst hi0
   go_wp2
   all_goals (go_ret;exact⟨rfl,rfl⟩)
  |some a=>
   obtain⟨ab,ao,asp⟩:=a
   go_wp2
   all_goals (go_ret;exact⟨rfl,rfl⟩)
 end_:=by
  intro base n c m vc vb w w' q hm hnc hlim hnil hrun;obtain⟨t0,t3,t4,a0,a3,a4,z0,z3,z4,v0,v3,v4,u0,u3,u4⟩:=insB;obtain⟨t9,t24,a9,a24,z9,z24,v24,u24⟩:=insB414;have mixed:Tryz.prog.follows .mixedOrders=true:=by kernel_rfl
  have hz1:¬((m:Int)=0):=by omega
  go_enter Tryz.func414,Tryz.ntmps414
  cases base with
  |none=>
   have h0:=hnil rfl;subst h0
   go_wp2_with (at_builtin;refine Lib.wpList_append_run _ rfl _ _ _ _ rfl _ _ rfl rfl _ _ hrun ?_)
   all_goals (go_ret;exact⟨rfl,rfl⟩)
  |some a=>
   obtain⟨ab,ao,asp⟩:=a
   go_wp2_with (at_builtin;refine Lib.wpList_append_run _ rfl _ _ _ _ rfl _ _ rfl rfl _ _ hrun ?_)
   all_goals (go_ret;exact⟨rfl,rfl⟩)
 shift:=by
  intro b off n c i vb voff m vc cs vs w hi hm hroom hlim hvb hcl hvl hcs hsp hfz hvs h1c h1v tA tB kA kB hsa hsb hkA;obtain⟨t0,t3,t4,a0,a3,a4,z0,z3,z4,v0,v3,v4,u0,u3,u4⟩:=insB;obtain⟨t9,t24,a9,a24,z9,z24,v24,u24⟩:=insB414;have hz1:¬((m:Int)=0):=by omega
  have hz2:¬((i:Int)=(n:Int)):=by omega
  have hsz:(Tryz.prog.info? 137).map (·.size)=some 17:=by kernel_rfl
  have hov:∀lb cb,(callFunc 429 #[.slice (some ⟨vb,voff,none⟩) m vc,.slice (some ⟨b,off+(i+m)*17,none⟩) lb cb]).run Tryz.prog w=.ok (.value (.bool false)) w:=fun lb cb=>by
   rw[run_callFunc_extern Tryz.func429 (by kernel_rfl) (by kernel_rfl) (by kernel_rfl) (e:=Extern.SlicesOverlaps.overlaps #[128,128] #[4]) (by kernel_rfl),
    run_overlaps_k w 128 4 137 t24 17 z9 ⟨vb,voff,none⟩ ⟨b,off+(i+m)*17,none⟩ m vc lb cb hvb tA tB kA kB hsa hsb hkA (hfz _) (hfz _)]
   rfl
  have mixed:Tryz.prog.follows .mixedOrders=true:=by kernel_rfl
  have hw1:IntKind.i64.wrap ((i:Int)+(m:Int))=(i:Int)+(m:Int):=by rw[IntKind.wrap_i64];omega
  have hb1:(0:Int)≤(i:Int)+(m:Int):=by omega
  have hin:i≤n:=by omega
  have htn:((i:Int)+(m:Int)).toNat=i+m:=by omega
  have hb2:¬(c=i+m):=by omega
  have hb3:(i:Int)≤(n:Int)+(m:Int):=by omega
  have hb4:¬(c=i):=by omega
  obtain⟨W1,hW1,hcp1,hcp2⟩:=ins_p1 t24 hsz b off n c i vb voff m vc cs vs w hi hm hvb hcl hvl hcs hsp hfz hvs h1c h1v
  go_enter Tryz.func414,Tryz.ntmps414
  go_wp2_with (simp only[hov])
  go_region_law_o (refine step_copy_k rfl _ _ 128 128 rfl _ _ (by simp[Act.eval,Act.put]) (by simp[Act.eval,Act.put]) (hcp1 _ _ _) ?_)
  go_wp2_with (at_builtin;refine wpList_copy_k _ rfl _ _ 128 128 rfl _ _ rfl rfl (hcp2 _ (fun _=>rfl) (fun _=>rfl) _ _) ?_)
  go_ret
  first|exact⟨rfl,rfl⟩|exact⟨rfl,by rw[hW1]⟩
 grow:=by
  intro b off n c i vb voff m vc cs vs w hi hm hnc hroom hlim hcl hvl hbw hvw hcs hvs h1c h1v;obtain⟨t0,t3,t4,a0,a3,a4,z0,z3,z4,v0,v3,v4,u0,u3,u4⟩:=insB;obtain⟨t9,t24,a9,a24,z9,z24,v24,u24⟩:=insB414;have mixed:Tryz.prog.follows .mixedOrders=true:=by kernel_rfl
  obtain⟨i0,hi0,hz0,hzs,hzb⟩:∃i0,Tryz.prog.info? 137=some i0∧i0.zero=some (Value.agg #[.int .i64 0,.int .i64 0,.string ⟨#[]⟩,.string ⟨#[]⟩,.int .i64 0,.slice none 0 0,.int .i64 0,.int .i64 0,.int .i64 0,.int .i64 0,.int .i64 0,.int .i64 0,.slice none 0 0,.int .i64 0,.int .i64 0,.int .i64 0,.int .i64 0])∧i0.size=17∧i0.bytes=184:=⟨_,rfl,rfl,rfl,rfl⟩;have hz1:¬((m:Int)=0):=by omega
  have hz2:¬((i:Int)=(n:Int)):=by omega
  have hz3:(c:Int)<(n:Int)+(m:Int):=by omega
  obtain⟨G,ROW,hGn,hRl,hRs,hRt,hG63,hrz,hcpA,hcpB⟩:=ins_p2 t24 t3 i0 (Value.agg #[.int .i64 0,.int .i64 0,.string ⟨#[]⟩,.string ⟨#[]⟩,.int .i64 0,.slice none 0 0,.int .i64 0,.int .i64 0,.int .i64 0,.int .i64 0,.int .i64 0,.int .i64 0,.slice none 0 0,.int .i64 0,.int .i64 0,.int .i64 0,.int .i64 0]) hi0 hz0 hzs (by decide) (by rw[hzb];decide) (fun k=>by simp[Builtin.zeroCells,Value.cells]) b off n c i vb voff m vc cs vs w hi hm hnc hroom hlim hcl hvl hbw hvw hcs hvs h1c h1v;have hGi:¬(G=i):=by omega
  have hGim:¬(G=i+m):=by omega
  have hci:¬(c=i):=by omega
  have hE1:∀x,((w.alloc (.cells ROW 137)).drew).cell? x=(w.drew.alloc (.cells ROW 137)).cell? x:=fun x=>rfl;have hE2:∀x,((w.alloc (.cells ROW 137)).drew).frozen? x=(w.drew.alloc (.cells ROW 137)).frozen? x:=fun x=>rfl;have hF1:∀x,(((w.alloc (.cells ROW 137)).drew.setCells w.heap.size (i*17) vs).drew).cell? x=((w.drew.alloc (.cells ROW 137)).setCells w.heap.size (i*17) vs).cell? x:=fun x=>rfl;have hF2:∀x,(((w.alloc (.cells ROW 137)).drew.setCells w.heap.size (i*17) vs).drew).frozen? x=((w.drew.alloc (.cells ROW 137)).setCells w.heap.size (i*17) vs).frozen? x:=fun x=>rfl;have hw1:IntKind.i64.wrap ((i:Int)+(m:Int))=(i:Int)+(m:Int):=by rw[IntKind.wrap_i64];omega
  have hb1:(0:Int)≤(i:Int)+(m:Int):=by omega
  have hin:i≤n:=by omega
  have htn:((i:Int)+(m:Int)).toNat=i+m:=by omega
  have hb3:(i:Int)≤(n:Int):=by omega
  go_enter Tryz.func414,Tryz.ntmps414
  go_wp2_with (first
   |(at_builtin;refine Lib.wpList_append_run _ rfl _ _ _ _ rfl _ _ rfl rfl _ _ (hrz _) ?_)
   |(at_builtin;refine wpList_copy_k _ rfl _ _ 128 128 rfl _ _ rfl rfl (hcpA _ hE1 hE2 _ _) ?_)
   |(at_builtin;refine wpList_copy_k _ rfl _ _ 128 128 rfl _ _ rfl rfl (hcpB _ (fun _=>rfl) (fun _=>rfl) _ _ _) ?_))
  go_region_law_o (refine step_copy_k rfl _ _ 128 128 rfl (.slice (some ⟨w.heap.size,(i+m)*17,none⟩) (n+m-(i+m)) (G-(i+m))) (.slice (some ⟨b,off+i*17,none⟩) (n-i) (c-i)) (by simp[Act.eval,Act.put]) (by simp[Act.eval,Act.put]) (hcpB _ hF1 hF2 3 (G-(i+m)) (c-i)) ?_)
  go_wp2
  go_ret
  exact⟨G,ROW,w.drew.drew.drawn,hGn,hRl,hRs,hRt,rfl,by first|rfl|(rw[drew_setK];rfl)|(simp only[drew_setK];rfl)⟩
def insB415:=And.intro Tryz.underlying137 (And.intro Tryz.underlying128 (And.intro Tryz.isAgg137 (And.intro Tryz.isAgg128 (And.intro Tryz.sizeOf137 (And.intro Tryz.sizeOf128 (And.intro Tryz.zeroValue128 ((run_underlying Tryz.underlying128))))))))
theorem delC415:DelC Tryz.prog 415 17 where
 ent:=⟨Tryz.f415,Tryz.func415,by kernel_rfl,by kernel_rfl⟩
 pos:=by decide
 nothing:=by
  intro base n c i w hnc hi hnil;obtain⟨t0,t3,t4,a0,a3,a4,z0,z3,z4,v0,v3,v4,u0,u3,u4⟩:=insB;obtain⟨t9,t24,a9,a24,z9,z24,v24,u24⟩:=insB415;have mixed:Tryz.prog.follows .mixedOrders=true:=by kernel_rfl
  go_enter Tryz.func415,Tryz.ntmps415
  cases base with
  |none=>
   have h0:=hnil rfl;subst h0;have hi0:i=0:=by omega
   subst hi0
   go_wp2
   all_goals (go_ret;exact⟨rfl,rfl⟩)
  |some a=>
   obtain⟨ab,ao,asp⟩:=a
   go_wp2
   all_goals (go_ret;exact⟨rfl,rfl⟩)
 cut:=by
  intro b off n c i j cs w hij hj hnc hlim hcl hcs hfz h1c;obtain⟨t0,t3,t4,a0,a3,a4,z0,z3,z4,v0,v3,v4,u0,u3,u4⟩:=insB;obtain⟨t9,t24,a9,a24,z9,z24,v24,u24⟩:=insB415;have mixed:Tryz.prog.follows .mixedOrders=true:=by kernel_rfl
  obtain⟨i0,hi0,hzs,hzb⟩:∃i0,Tryz.prog.info? 137=some i0∧i0.size=17∧i0.bytes=184:=⟨_,rfl,rfl,rfl⟩;have hv9:∀w,(zeroValue 137).run Tryz.prog w=.ok (Value.agg #[.int .i64 0,.int .i64 0,.string ⟨#[]⟩,.string ⟨#[]⟩,.int .i64 0,.slice none 0 0,.int .i64 0,.int .i64 0,.int .i64 0,.int .i64 0,.int .i64 0,.int .i64 0,.slice none 0 0,.int .i64 0,.int .i64 0,.int .i64 0,.int .i64 0]) w:=Tryz.zeroValue137;obtain⟨news,hnews⟩:∃news,news=cs.drop (j*17):=⟨_,rfl⟩;have hlen:news.length=(n-j)*17:=by rw[hnews,List.length_drop,hcl];omega
  obtain⟨A,hA,hsrc⟩:∃A:Addr,(if c=j then some (⟨b,off,none⟩:Addr) else some ⟨b,off+j*17,none⟩)=some A∧Hid (∀t u,news[t]?=some u→w.drew.cell? (A.add t)=some u):=by
   by_cases h:c=j
   ·refine⟨⟨b,off,none⟩,by simp[h],fun t u hu=>?_⟩;have h0:news.length=0:=by rw[hlen];omega
    rw[List.length_eq_zero_iff.1 h0] at hu;simp at hu
   ·refine⟨⟨b,off+j*17,none⟩,by simp[h],fun t u hu=>?_⟩;rw[Addr.add_lit,Nat.add_assoc];refine hcs (j*17+t) u ?_;rw[hnews,List.getElem?_drop] at hu;exact hu
  have s1:Hid (news.length=(n-j)*17):=hlen;have s2:Hid (∀u∈news,u.oneCell'=true):=fun u hu=>h1c u (List.mem_of_mem_drop (hnews▸hu));have hcell:∀k,k<n*17→(w.cell? ⟨b,off+k,none⟩).isSome=true:=fun k hk=>by
   have hk':k<cs.length:=by omega
   rw[hcs k cs[k] (by simp)];rfl
  have s3:Hid (∀t,t<news.length→(w.drew.cell? ⟨b,off+i*17+t,none⟩).isSome=true∧w.drew.frozen? ⟨b,off+i*17+t,none⟩=false):=by
   intro t ht;rw[hlen] at ht;rw[Nat.add_assoc];exact⟨hcell _ (by omega),hfz _⟩
  obtain⟨W1,hW1⟩:∃W1,W1=w.drew.setCells b (off+i*17) news:=⟨_,rfl⟩;have hZl:∀k,(Builtin.zeroCells (Value.agg #[.int .i64 0,.int .i64 0,.string ⟨#[]⟩,.string ⟨#[]⟩,.int .i64 0,.slice none 0 0,.int .i64 0,.int .i64 0,.int .i64 0,.int .i64 0,.int .i64 0,.int .i64 0,.slice none 0 0,.int .i64 0,.int .i64 0,.int .i64 0,.int .i64 0]).cells k).toList.length=k*17:=fun k=>by simp[Builtin.zeroCells,Value.cells]
  have hZ1:∀k,∀v∈(Builtin.zeroCells (Value.agg #[.int .i64 0,.int .i64 0,.string ⟨#[]⟩,.string ⟨#[]⟩,.int .i64 0,.slice none 0 0,.int .i64 0,.int .i64 0,.int .i64 0,.int .i64 0,.int .i64 0,.int .i64 0,.slice none 0 0,.int .i64 0,.int .i64 0,.int .i64 0,.int .i64 0]).cells k).toList,v.oneCell'=true:=fun k v hv=>zero_one (by decide) hv;have hcl2:∀ty,(Builtin.clear_ #[128] ty #[.slice (some ⟨b,off+(i+(n-j))*17,none⟩) (n-(i+(n-j))) (c-(i+(n-j)))]).run Tryz.prog W1=.ok (.tuple #[]) (W1.setCells b (off+(i+(n-j))*17) (Builtin.zeroCells (Value.agg #[.int .i64 0,.int .i64 0,.string ⟨#[]⟩,.string ⟨#[]⟩,.int .i64 0,.slice none 0 0,.int .i64 0,.int .i64 0,.int .i64 0,.int .i64 0,.int .i64 0,.int .i64 0,.slice none 0 0,.int .i64 0,.int .i64 0,.int .i64 0,.int .i64 0]).cells (n-(i+(n-j)))).toList):=fun ty=>
   run_clear_k W1 128 137 ty _ t24 hv9 b _ _ _ (by omega) (hZ1 _) (fun k hk=>by
    rw[hZl] at hk;rw[hW1];refine isSome_setK b _ _ _ (fun t ht=>?_) _ ?_
    ·rw[hlen] at ht;rw[Nat.add_assoc];exact hcell _ (by omega)
    ·rw[Nat.add_assoc];exact hcell _ (by omega)) (fun k=>by rw[hW1,World.frozen?_setCells];exact hfz k)
  have hW:Hid (W1=w.drew.setCells b (off+i*17) news):=hW1;have X:Hid (news=cs.drop (j*17)):=hnews;have Y1:=hZl (n-(i+(n-j)));have Y2:=hZ1 (n-(i+(n-j)));obtain⟨ZS,hZS⟩:∃ZS,ZS=(Builtin.zeroCells (Value.agg #[.int .i64 0,.int .i64 0,.string ⟨#[]⟩,.string ⟨#[]⟩,.int .i64 0,.slice none 0 0,.int .i64 0,.int .i64 0,.int .i64 0,.int .i64 0,.int .i64 0,.int .i64 0,.slice none 0 0,.int .i64 0,.int .i64 0,.int .i64 0,.int .i64 0]).cells (n-(i+(n-j)))).toList:=⟨_,rfl⟩;rw[←hZS] at hcl2 Y1 Y2;have Y1h:Hid (ZS.length=(n-(i+(n-j)))*17):=Y1;have Y2h:Hid (∀v∈ZS,v.oneCell'=true):=Y2;have hic:i≤c:=by omega
  have hjc:j≤c:=by omega
  have heq:¬((i:Int)=(j:Int)):=by omega
  clear hW1 hnews hlen Y1 Y2 hZS hZl hZ1 hcell hcs hcl h1c
  go_enter Tryz.func415,Tryz.ntmps415
  go_wp2_with fail
  go_region_law_o (refine step_append_room rfl (.tmp 22) (.tmp 25) 128 rfl 137 i0 17 t24 hi0 hzs b off i c (by simp[Act.eval,Act.put]) A (n-j) (c-j) news (by (simp[Act.eval,Act.put])<;>simpa using hA) s1.out hsrc.out s2.out (by omega) s3.out ?_;rw[←hW.out])
  go_wp2
  go_ret
  refine⟨by rw[show n-(j-i)=i+(n-j) by omega];rfl,w.drew.drawn,ZS,?_,Y2h.out,?_⟩
  ·rw[Y1h.out];congr 1;omega
  ·rw[←X.out,show n-(j-i)=i+(n-j) by omega];have:({w with drawn:=w.drew.drawn}:World)=w.drew:=rfl;rw[this,←hW.out]
def insB423:=And.intro Tryz.underlying141 (And.intro Tryz.underlying134 (And.intro Tryz.isAgg141 (And.intro Tryz.isAgg134 (And.intro Tryz.sizeOf141 (And.intro Tryz.sizeOf134 (And.intro Tryz.zeroValue134 ((run_underlying Tryz.underlying134))))))))
theorem insC423:InsC Tryz.prog 423 2 134 141 where
 ent:=⟨Tryz.f423,Tryz.func423,by kernel_rfl,by kernel_rfl⟩
 hS:=Tryz.underlying134
 hz:=by kernel_rfl
 pos:=by decide
 info:=⟨_,(Value.agg #[.string ⟨#[]⟩,.slice none 0 0]),rfl,by decide,rfl,rfl⟩
 nothing:=by
  intro base n c i vc vb w hnc hi hnil;obtain⟨t0,t3,t4,a0,a3,a4,z0,z3,z4,v0,v3,v4,u0,u3,u4⟩:=insB;obtain⟨t9,t24,a9,a24,z9,z24,v24,u24⟩:=insB423;have mixed:Tryz.prog.follows .mixedOrders=true:=by kernel_rfl
  go_enter Tryz.func423,Tryz.ntmps423
  cases base with
  |none=>
   have h0:=hnil rfl;subst h0;have hi0:i=0:=by omega
   subst hi0
   go_wp2
   all_goals (go_ret;exact⟨rfl,rfl⟩)
  |some a=>
   obtain⟨ab,ao,asp⟩:=a
   go_wp2
   all_goals (go_ret;exact⟨rfl,rfl⟩)
 end_:=by
  intro base n c m vc vb w w' q hm hnc hlim hnil hrun;obtain⟨t0,t3,t4,a0,a3,a4,z0,z3,z4,v0,v3,v4,u0,u3,u4⟩:=insB;obtain⟨t9,t24,a9,a24,z9,z24,v24,u24⟩:=insB423;have mixed:Tryz.prog.follows .mixedOrders=true:=by kernel_rfl
  have hz1:¬((m:Int)=0):=by omega
  go_enter Tryz.func423,Tryz.ntmps423
  cases base with
  |none=>
   have h0:=hnil rfl;subst h0
   go_wp2_with (at_builtin;refine Lib.wpList_append_run _ rfl _ _ _ _ rfl _ _ rfl rfl _ _ hrun ?_)
   all_goals (go_ret;exact⟨rfl,rfl⟩)
  |some a=>
   obtain⟨ab,ao,asp⟩:=a
   go_wp2_with (at_builtin;refine Lib.wpList_append_run _ rfl _ _ _ _ rfl _ _ rfl rfl _ _ hrun ?_)
   all_goals (go_ret;exact⟨rfl,rfl⟩)
 shift:=by
  intro b off n c i vb voff m vc cs vs w hi hm hroom hlim hvb hcl hvl hcs hsp hfz hvs h1c h1v tA tB kA kB hsa hsb hkA;obtain⟨t0,t3,t4,a0,a3,a4,z0,z3,z4,v0,v3,v4,u0,u3,u4⟩:=insB;obtain⟨t9,t24,a9,a24,z9,z24,v24,u24⟩:=insB423;have hz1:¬((m:Int)=0):=by omega
  have hz2:¬((i:Int)=(n:Int)):=by omega
  have hsz:(Tryz.prog.info? 141).map (·.size)=some 2:=by kernel_rfl
  have hov:∀lb cb,(callFunc 437 #[.slice (some ⟨vb,voff,none⟩) m vc,.slice (some ⟨b,off+(i+m)*2,none⟩) lb cb]).run Tryz.prog w=.ok (.value (.bool false)) w:=fun lb cb=>by
   rw[run_callFunc_extern Tryz.func437 (by kernel_rfl) (by kernel_rfl) (by kernel_rfl) (e:=Extern.SlicesOverlaps.overlaps #[134,134] #[4]) (by kernel_rfl),
    run_overlaps_k w 134 4 141 t24 2 z9 ⟨vb,voff,none⟩ ⟨b,off+(i+m)*2,none⟩ m vc lb cb hvb tA tB kA kB hsa hsb hkA (hfz _) (hfz _)]
   rfl
  have mixed:Tryz.prog.follows .mixedOrders=true:=by kernel_rfl
  have hw1:IntKind.i64.wrap ((i:Int)+(m:Int))=(i:Int)+(m:Int):=by rw[IntKind.wrap_i64];omega
  have hb1:(0:Int)≤(i:Int)+(m:Int):=by omega
  have hin:i≤n:=by omega
  have htn:((i:Int)+(m:Int)).toNat=i+m:=by omega
  have hb2:¬(c=i+m):=by omega
  have hb3:(i:Int)≤(n:Int)+(m:Int):=by omega
  have hb4:¬(c=i):=by omega
  obtain⟨W1,hW1,hcp1,hcp2⟩:=ins_p1 t24 hsz b off n c i vb voff m vc cs vs w hi hm hvb hcl hvl hcs hsp hfz hvs h1c h1v
  go_enter Tryz.func423,Tryz.ntmps423
  go_wp2_with (simp only[hov])
  go_region_law_o (refine step_copy_k rfl _ _ 134 134 rfl _ _ (by simp[Act.eval,Act.put]) (by simp[Act.eval,Act.put]) (hcp1 _ _ _) ?_)
  go_wp2_with (at_builtin;refine wpList_copy_k _ rfl _ _ 134 134 rfl _ _ rfl rfl (hcp2 _ (fun _=>rfl) (fun _=>rfl) _ _) ?_)
  go_ret
  first|exact⟨rfl,rfl⟩|exact⟨rfl,by rw[hW1]⟩
 grow:=by
  intro b off n c i vb voff m vc cs vs w hi hm hnc hroom hlim hcl hvl hbw hvw hcs hvs h1c h1v;obtain⟨t0,t3,t4,a0,a3,a4,z0,z3,z4,v0,v3,v4,u0,u3,u4⟩:=insB;obtain⟨t9,t24,a9,a24,z9,z24,v24,u24⟩:=insB423;have mixed:Tryz.prog.follows .mixedOrders=true:=by kernel_rfl
  obtain⟨i0,hi0,hz0,hzs,hzb⟩:∃i0,Tryz.prog.info? 141=some i0∧i0.zero=some (Value.agg #[.string ⟨#[]⟩,.slice none 0 0])∧i0.size=2∧i0.bytes=40:=⟨_,rfl,rfl,rfl,rfl⟩;have hz1:¬((m:Int)=0):=by omega
  have hz2:¬((i:Int)=(n:Int)):=by omega
  have hz3:(c:Int)<(n:Int)+(m:Int):=by omega
  obtain⟨G,ROW,hGn,hRl,hRs,hRt,hG63,hrz,hcpA,hcpB⟩:=ins_p2 t24 t3 i0 (Value.agg #[.string ⟨#[]⟩,.slice none 0 0]) hi0 hz0 hzs (by decide) (by rw[hzb];decide) (fun k=>by simp[Builtin.zeroCells,Value.cells]) b off n c i vb voff m vc cs vs w hi hm hnc hroom hlim hcl hvl hbw hvw hcs hvs h1c h1v;have hGi:¬(G=i):=by omega
  have hGim:¬(G=i+m):=by omega
  have hci:¬(c=i):=by omega
  have hE1:∀x,((w.alloc (.cells ROW 141)).drew).cell? x=(w.drew.alloc (.cells ROW 141)).cell? x:=fun x=>rfl;have hE2:∀x,((w.alloc (.cells ROW 141)).drew).frozen? x=(w.drew.alloc (.cells ROW 141)).frozen? x:=fun x=>rfl;have hF1:∀x,(((w.alloc (.cells ROW 141)).drew.setCells w.heap.size (i*2) vs).drew).cell? x=((w.drew.alloc (.cells ROW 141)).setCells w.heap.size (i*2) vs).cell? x:=fun x=>rfl;have hF2:∀x,(((w.alloc (.cells ROW 141)).drew.setCells w.heap.size (i*2) vs).drew).frozen? x=((w.drew.alloc (.cells ROW 141)).setCells w.heap.size (i*2) vs).frozen? x:=fun x=>rfl;have hw1:IntKind.i64.wrap ((i:Int)+(m:Int))=(i:Int)+(m:Int):=by rw[IntKind.wrap_i64];omega
  have hb1:(0:Int)≤(i:Int)+(m:Int):=by omega
  have hin:i≤n:=by omega
  have htn:((i:Int)+(m:Int)).toNat=i+m:=by omega
  have hb3:(i:Int)≤(n:Int):=by omega
  go_enter Tryz.func423,Tryz.ntmps423
  go_wp2_with (first
   |(at_builtin;refine Lib.wpList_append_run _ rfl _ _ _ _ rfl _ _ rfl rfl _ _ (hrz _) ?_)
   |(at_builtin;refine wpList_copy_k _ rfl _ _ 134 134 rfl _ _ rfl rfl (hcpA _ hE1 hE2 _ _) ?_)
   |(at_builtin;refine wpList_copy_k _ rfl _ _ 134 134 rfl _ _ rfl rfl (hcpB _ (fun _=>rfl) (fun _=>rfl) _ _ _) ?_))
  go_region_law_o (refine step_copy_k rfl _ _ 134 134 rfl (.slice (some ⟨w.heap.size,(i+m)*2,none⟩) (n+m-(i+m)) (G-(i+m))) (.slice (some ⟨b,off+i*2,none⟩) (n-i) (c-i)) (by simp[Act.eval,Act.put]) (by simp[Act.eval,Act.put]) (hcpB _ hF1 hF2 3 (G-(i+m)) (c-i)) ?_)
  go_wp2
  go_ret
  exact⟨G,ROW,w.drew.drew.drawn,hGn,hRl,hRs,hRt,rfl,by first|rfl|(rw[drew_setK];rfl)|(simp only[drew_setK];rfl)⟩
def insB425:=And.intro Tryz.underlying330 (And.intro Tryz.underlying135 (And.intro Tryz.isAgg330 (And.intro Tryz.isAgg135 (And.intro Tryz.sizeOf330 (And.intro Tryz.sizeOf135 (And.intro Tryz.zeroValue135 ((run_underlying Tryz.underlying135))))))))
theorem insC425:InsC Tryz.prog 425 11 135 330 where
 ent:=⟨Tryz.f425,Tryz.func425,by kernel_rfl,by kernel_rfl⟩
 hS:=Tryz.underlying135
 hz:=by kernel_rfl
 pos:=by decide
 info:=⟨_,(Value.agg #[.int .i64 0,.int .i64 0,.int .i64 0,.int .i64 0,.int .i64 0,.int .i64 0,.bool false,.string ⟨#[]⟩,.slice none 0 0,.string ⟨#[]⟩,.bool false]),rfl,by decide,rfl,rfl⟩
 nothing:=by
  intro base n c i vc vb w hnc hi hnil;obtain⟨t0,t3,t4,a0,a3,a4,z0,z3,z4,v0,v3,v4,u0,u3,u4⟩:=insB;obtain⟨t9,t24,a9,a24,z9,z24,v24,u24⟩:=insB425;have mixed:Tryz.prog.follows .mixedOrders=true:=by kernel_rfl
  go_enter Tryz.func425,Tryz.ntmps425
  cases base with
  |none=>
   have h0:=hnil rfl;subst h0;have hi0:i=0:=by omega
   subst hi0
   go_wp2
   all_goals (go_ret;exact⟨rfl,rfl⟩)
  |some a=>
   obtain⟨ab,ao,asp⟩:=a
   go_wp2
   all_goals (go_ret;exact⟨rfl,rfl⟩)
 end_:=by
  intro base n c m vc vb w w' q hm hnc hlim hnil hrun;obtain⟨t0,t3,t4,a0,a3,a4,z0,z3,z4,v0,v3,v4,u0,u3,u4⟩:=insB;obtain⟨t9,t24,a9,a24,z9,z24,v24,u24⟩:=insB425;have mixed:Tryz.prog.follows .mixedOrders=true:=by kernel_rfl
  have hz1:¬((m:Int)=0):=by omega
  go_enter Tryz.func425,Tryz.ntmps425
  cases base with
  |none=>
   have h0:=hnil rfl;subst h0
   go_wp2_with (at_builtin;refine Lib.wpList_append_run _ rfl _ _ _ _ rfl _ _ rfl rfl _ _ hrun ?_)
   all_goals (go_ret;exact⟨rfl,rfl⟩)
  |some a=>
   obtain⟨ab,ao,asp⟩:=a
   go_wp2_with (at_builtin;refine Lib.wpList_append_run _ rfl _ _ _ _ rfl _ _ rfl rfl _ _ hrun ?_)
   all_goals (go_ret;exact⟨rfl,rfl⟩)
 shift:=by
  intro b off n c i vb voff m vc cs vs w hi hm hroom hlim hvb hcl hvl hcs hsp hfz hvs h1c h1v tA tB kA kB hsa hsb hkA;obtain⟨t0,t3,t4,a0,a3,a4,z0,z3,z4,v0,v3,v4,u0,u3,u4⟩:=insB;obtain⟨t9,t24,a9,a24,z9,z24,v24,u24⟩:=insB425;have hz1:¬((m:Int)=0):=by omega
  have hz2:¬((i:Int)=(n:Int)):=by omega
  have hsz:(Tryz.prog.info? 330).map (·.size)=some 11:=by kernel_rfl
  have hov:∀lb cb,(callFunc 439 #[.slice (some ⟨vb,voff,none⟩) m vc,.slice (some ⟨b,off+(i+m)*11,none⟩) lb cb]).run Tryz.prog w=.ok (.value (.bool false)) w:=fun lb cb=>by
   rw[run_callFunc_extern Tryz.func439 (by kernel_rfl) (by kernel_rfl) (by kernel_rfl) (e:=Extern.SlicesOverlaps.overlaps #[135,135] #[4]) (by kernel_rfl),
    run_overlaps_k w 135 4 330 t24 11 z9 ⟨vb,voff,none⟩ ⟨b,off+(i+m)*11,none⟩ m vc lb cb hvb tA tB kA kB hsa hsb hkA (hfz _) (hfz _)]
   rfl
  have mixed:Tryz.prog.follows .mixedOrders=true:=by kernel_rfl
  have hw1:IntKind.i64.wrap ((i:Int)+(m:Int))=(i:Int)+(m:Int):=by rw[IntKind.wrap_i64];omega
  have hb1:(0:Int)≤(i:Int)+(m:Int):=by omega
  have hin:i≤n:=by omega
  have htn:((i:Int)+(m:Int)).toNat=i+m:=by omega
  have hb2:¬(c=i+m):=by omega
  have hb3:(i:Int)≤(n:Int)+(m:Int):=by omega
  have hb4:¬(c=i):=by omega
  obtain⟨W1,hW1,hcp1,hcp2⟩:=ins_p1 t24 hsz b off n c i vb voff m vc cs vs w hi hm hvb hcl hvl hcs hsp hfz hvs h1c h1v
  go_enter Tryz.func425,Tryz.ntmps425
  go_wp2_with (simp only[hov])
  go_region_law_o (refine step_copy_k rfl _ _ 135 135 rfl _ _ (by simp[Act.eval,Act.put]) (by simp[Act.eval,Act.put]) (hcp1 _ _ _) ?_)
  go_wp2_with (at_builtin;refine wpList_copy_k _ rfl _ _ 135 135 rfl _ _ rfl rfl (hcp2 _ (fun _=>rfl) (fun _=>rfl) _ _) ?_)
  go_ret
  first|exact⟨rfl,rfl⟩|exact⟨rfl,by rw[hW1]⟩
 grow:=by
  intro b off n c i vb voff m vc cs vs w hi hm hnc hroom hlim hcl hvl hbw hvw hcs hvs h1c h1v;obtain⟨t0,t3,t4,a0,a3,a4,z0,z3,z4,v0,v3,v4,u0,u3,u4⟩:=insB;obtain⟨t9,t24,a9,a24,z9,z24,v24,u24⟩:=insB425;have mixed:Tryz.prog.follows .mixedOrders=true:=by kernel_rfl
  obtain⟨i0,hi0,hz0,hzs,hzb⟩:∃i0,Tryz.prog.info? 330=some i0∧i0.zero=some (Value.agg #[.int .i64 0,.int .i64 0,.int .i64 0,.int .i64 0,.int .i64 0,.int .i64 0,.bool false,.string ⟨#[]⟩,.slice none 0 0,.string ⟨#[]⟩,.bool false])∧i0.size=11∧i0.bytes=120:=⟨_,rfl,rfl,rfl,rfl⟩;have hz1:¬((m:Int)=0):=by omega
  have hz2:¬((i:Int)=(n:Int)):=by omega
  have hz3:(c:Int)<(n:Int)+(m:Int):=by omega
  obtain⟨G,ROW,hGn,hRl,hRs,hRt,hG63,hrz,hcpA,hcpB⟩:=ins_p2 t24 t3 i0 (Value.agg #[.int .i64 0,.int .i64 0,.int .i64 0,.int .i64 0,.int .i64 0,.int .i64 0,.bool false,.string ⟨#[]⟩,.slice none 0 0,.string ⟨#[]⟩,.bool false]) hi0 hz0 hzs (by decide) (by rw[hzb];decide) (fun k=>by simp[Builtin.zeroCells,Value.cells]) b off n c i vb voff m vc cs vs w hi hm hnc hroom hlim hcl hvl hbw hvw hcs hvs h1c h1v;have hGi:¬(G=i):=by omega
  have hGim:¬(G=i+m):=by omega
  have hci:¬(c=i):=by omega
  have hE1:∀x,((w.alloc (.cells ROW 330)).drew).cell? x=(w.drew.alloc (.cells ROW 330)).cell? x:=fun x=>rfl;have hE2:∀x,((w.alloc (.cells ROW 330)).drew).frozen? x=(w.drew.alloc (.cells ROW 330)).frozen? x:=fun x=>rfl;have hF1:∀x,(((w.alloc (.cells ROW 330)).drew.setCells w.heap.size (i*11) vs).drew).cell? x=((w.drew.alloc (.cells ROW 330)).setCells w.heap.size (i*11) vs).cell? x:=fun x=>rfl;have hF2:∀x,(((w.alloc (.cells ROW 330)).drew.setCells w.heap.size (i*11) vs).drew).frozen? x=((w.drew.alloc (.cells ROW 330)).setCells w.heap.size (i*11) vs).frozen? x:=fun x=>rfl;have hw1:IntKind.i64.wrap ((i:Int)+(m:Int))=(i:Int)+(m:Int):=by rw[IntKind.wrap_i64];omega
  have hb1:(0:Int)≤(i:Int)+(m:Int):=by omega
  have hin:i≤n:=by omega
  have htn:((i:Int)+(m:Int)).toNat=i+m:=by omega
  have hb3:(i:Int)≤(n:Int):=by omega
  go_enter Tryz.func425,Tryz.ntmps425
  go_wp2_with (first
   |(at_builtin;refine Lib.wpList_append_run _ rfl _ _ _ _ rfl _ _ rfl rfl _ _ (hrz _) ?_)
   |(at_builtin;refine wpList_copy_k _ rfl _ _ 135 135 rfl _ _ rfl rfl (hcpA _ hE1 hE2 _ _) ?_)
   |(at_builtin;refine wpList_copy_k _ rfl _ _ 135 135 rfl _ _ rfl rfl (hcpB _ (fun _=>rfl) (fun _=>rfl) _ _ _) ?_))
  go_region_law_o (refine step_copy_k rfl _ _ 135 135 rfl (.slice (some ⟨w.heap.size,(i+m)*11,none⟩) (n+m-(i+m)) (G-(i+m))) (.slice (some ⟨b,off+i*11,none⟩) (n-i) (c-i)) (by simp[Act.eval,Act.put]) (by simp[Act.eval,Act.put]) (hcpB _ hF1 hF2 3 (G-(i+m)) (c-i)) ?_)
  go_wp2
  go_ret
  exact⟨G,ROW,w.drew.drew.drawn,hGn,hRl,hRs,hRt,rfl,by first|rfl|(rw[drew_setK];rfl)|(simp only[drew_setK];rfl)⟩
end Sg
namespace Sg
open _root_.Go (IntKind BinOp UnOp)
variable {Pg:PgT}
theorem Yi {i n:Nat} (h:decide ((i:Int)<(n:Int))=true):i<n:=by simpa using h
theorem Yo {i n:Nat} (hi:i≤n) (h:decide ((i:Int)<(n:Int))=false):i=n:=by
 have:¬i<n:=by simpa using h
 omega
theorem Yj {i n:Nat} (h:i<n) (hn:n<2 ^ 60):IntKind.i64.wrap ((i:Int)+1)=((i+1:Nat):Int):=Jmq (by omega) (by omega)
theorem Yx {α:Type} {l:List α} {i:Nat} {x:α} (h:l[i]?=some x):l.take (i+1)=l.take i++[x]:=by rw[GT,h];rfl
theorem Yak {α:Type} {l:List α} {i:Nat} (h:i=l.length):l.take i=l:=by rw[h,GP]
theorem YcA {n:Nat}:decide ((0:Int)<(n:Int))=!decide (n=0):=by cases n<;>simp
end Sg
namespace Sg
open _root_.Go
theorem YcO (n a b c d:Nat):1≤(Lib.decodeN n a b c d).2∧(Lib.decodeN n a b c d).2≤4:=by
 unfold Lib.decodeN
 repeat' split
 all_goals simp
theorem YdM (l:List UInt8):1≤(dN l).2:=(YcO ..).1
def Ybr:Nat→List UInt8→List Int
 |0,_=>[]
 |f+1,l=>if l=[] then [] else ((dN l).1:Int)::Ybr f (l.drop (dN l).2)
def Yk (l:List UInt8):List Int:=Ybr l.length l
theorem YaH {l:List UInt8} (h:l≠[]):(l.drop (dN l).2).length<l.length:=by
 have:=YdM l;have:0<l.length:=List.length_pos_iff.2 h;rw[GI];omega
theorem YbS:∀(f:Nat) (l:List UInt8),l.length≤f→Ybr f l=Yk l
 |0,l,h=>by
  obtain rfl:l=[]:=GD (by omega)
  rfl
 |f+1,l,h=>by
  by_cases hl:l=[]
  ·subst hl;simp[Ybr,Yk]
  ·have hd:=YaH hl;have h1:=YbS f (l.drop (dN l).2) (by omega);obtain⟨n,hn⟩:∃n,l.length=n+1:=⟨l.length-1,by omega⟩;have h2:Ybr n (l.drop (dN l).2)=Yk (l.drop (dN l).2):=YbS n _ (by omega);have e:Yk l=((dN l).1:Int)::Ybr n (l.drop (dN l).2):=by
    rw[Yk,hn];simp only[Ybr,hl,GG]
   rw[e,h2];simp only[Ybr,hl,GG,h1]
 termination_by f=>f
theorem Yat:Yk []=[]:=rfl
theorem YM {l:List UInt8} (h:l≠[]):Yk l=((dN l).1:Int)::Yk (l.drop (dN l).2):=by
 have hd:=YaH h;obtain⟨n,hn⟩:∃n,l.length=n+1:=⟨l.length-1,by omega⟩;rw[Yk,hn];simp only[Ybr,h,GG];rw[YbS n _ (by omega)]
def YN:Int→List UInt8→Option Int
 |a,[]=>some a
 |a,b::l=>if b.toNat<128∨191<b.toNat then none else YN (64*a+b.toNat-128) l
def cls (a:Int):Nat×Int×Int:=
 if 194≤a∧a<224 then (2,128,a-192) else if 224≤a∧a<240 then (3,2048,a-224) else if 240≤a∧a<245 then (4,65536,a-240) else (0,0,a)
def YaU (l:List UInt8):Int×Int:=
 match l with
 |[]=>(-1,1)
 |b::t=>if b.toNat<128 then ((b.toNat:Int),1) else
  if (cls b.toNat).1=0∨l.length<(cls b.toNat).1 then (-1,1) else
   match YN (cls b.toNat).2.2 (t.take ((cls b.toNat).1-1)) with
   |none=>(-1,1)
   |some v=>if v<(cls b.toNat).2.1∨1114111<v∨(55296≤v∧v<57344) then (-1,1) else (v,(cls b.toNat).1)
theorem Yel {n a b c d:Nat} (h:(128≤a∧a<194)∨(245≤a∧a<256)):Lib.decodeN n a b c d=(65533,1):=by
 unfold Lib.decodeN
 repeat' split
 all_goals first|(exfalso;omega)|rfl
theorem Ydm {n a b c d:Nat} (h:194≤a∧a<224):Lib.decodeN n a b c d=if 1<n∧b / 64=2 then (a % 32*64+b % 64,2) else (65533,1):=by
 unfold Lib.decodeN
 repeat' split
 all_goals first|(exfalso;omega)|rfl
theorem Ydn {n a b c d:Nat} (h:224≤a∧a<240):Lib.decodeN n a b c d=if (1<n∧b / 64=2)∧(2<n∧c / 64=2)∧2048≤a % 16*4096+b % 64*64+c % 64∧(a % 16*4096+b % 64*64+c % 64<55296∨57344≤a % 16*4096+b % 64*64+c % 64) then (a % 16*4096+b % 64*64+c % 64,3) else (65533,1):=by
 unfold Lib.decodeN
 repeat' split
 all_goals first|(exfalso;omega)|rfl
theorem YcY {n a b c d:Nat} (h:240≤a∧a<245):Lib.decodeN n a b c d=if (1<n∧b / 64=2)∧(2<n∧c / 64=2)∧(3<n∧d / 64=2)∧65536≤a % 8*262144+b % 64*4096+c % 64*64+d % 64∧a % 8*262144+b % 64*4096+c % 64*64+d % 64≤1114111 then (a % 8*262144+b % 64*4096+c % 64*64+d % 64,4) else (65533,1):=by
 unfold Lib.decodeN
 repeat' split
 all_goals first|(exfalso;omega)|rfl
theorem Yem {n a b c d:Nat} (h:a<128):Lib.decodeN n a b c d=(a,1):=by
 unfold Lib.decodeN;rw[GC h]
theorem YbN {b:UInt8}:(b.toNat<128∨191<b.toNat)↔¬b.toNat / 64=2:=by omega
theorem YbJ {l:List UInt8} (h:l≠[]):YaU l=if dN l=(65533,1) then (-1,1) else (((dN l).1:Int),((dN l).2:Int)):=by
 obtain⟨b0,t,rfl⟩:=List.exists_cons_of_ne_nil h;have l0:=b0.toNat_lt;have e0:(b0::t).getD 0 0=b0:=rfl;have e1:(b0::t).getD 1 0=t.getD 0 0:=rfl;have e2:(b0::t).getD 2 0=t.getD 1 0:=rfl;have e3:(b0::t).getD 3 0=t.getD 2 0:=rfl;simp only[YaU,dN,e0,e1,e2,e3,List.length_cons];by_cases c1:b0.toNat<128
 ·rw[GC c1,Yem c1,GA (by intro e;simp at e;omega)];rfl
 rw[GA c1];by_cases c2:194≤b0.toNat∧b0.toNat<224
 ·rw[Ydm c2,show cls b0.toNat=(2,128,(b0.toNat:Int)-192) from GC (by omega)]
  match t with
  |[]=>simp
  |b1::t=>
   have l1:=b1.toNat_lt;simp only[Gak,List.length_cons,List.take_succ_cons,List.take_zero,YN,YbN];by_cases d1:b1.toNat / 64=2
   ·have e:(1<t.length+1+1∧b1.toNat / 64=2):=⟨by omega,d1⟩;simp only[d1,e];simp
    repeat' split
    all_goals first|(exfalso;omega)|(simp;omega)|omega
   ·simp[d1]
 by_cases c3:224≤b0.toNat∧b0.toNat<240
 ·rw[Ydn c3,show cls b0.toNat=(3,2048,(b0.toNat:Int)-224) from by rw[cls,GA (by omega),GC (by omega)]]
  match t with
  |[]=>simp
  |[b1]=>simp
  |b1::b2::t=>
   have l1:=b1.toNat_lt;have l2:=b2.toNat_lt;simp only[Gak,List.getD_cons_succ,List.length_cons,List.take_succ_cons,List.take_zero,YN,YbN];by_cases d1:b1.toNat / 64=2
   ·by_cases d2:b2.toNat / 64=2
    ·have hv:64*(64*((b0.toNat:Int)-224)+b1.toNat-128)+b2.toNat-128=((b0.toNat % 16*4096+b1.toNat % 64*64+b2.toNat % 64:Nat):Int):=by omega
     have hn:¬(3=0∨t.length+1+1+1<3):=by omega
     simp only[d1,d2,not_true_eq_false,GG,hv,hn];obtain⟨v,hve,hvb⟩:∃v,b0.toNat % 16*4096+b1.toNat % 64*64+b2.toNat % 64=v∧v<65536:=⟨_,rfl,by omega⟩;rw[hve];by_cases c:2048≤v∧(v<55296∨57344≤v)
     ·have hD:(if (1<t.length+1+1+1∧True)∧(2<t.length+1+1+1∧True)∧2048≤v∧(v<55296∨57344≤v) then (v,3) else ((65533,1):Nat×Nat))=(v,3):=GC ⟨⟨by omega,Gm⟩,⟨by omega,Gm⟩,c.1,c.2⟩;rw[hD,GA (by omega),GA (by intro e;simp at e)]
     ·have hD:(if (1<t.length+1+1+1∧True)∧(2<t.length+1+1+1∧True)∧2048≤v∧(v<55296∨57344≤v) then (v,3) else ((65533,1):Nat×Nat))=(65533,1):=GA (fun e=>c ⟨e.2.2.1,e.2.2.2⟩);rw[hD,GC (by omega),GC rfl]
    ·simp[d1,d2]
   ·simp[d1]
 by_cases c4:240≤b0.toNat∧b0.toNat<245
 ·rw[YcY c4,show cls b0.toNat=(4,65536,(b0.toNat:Int)-240) from by rw[cls,GA (by omega),GA (by omega),GC (by omega)]]
  match t with
  |[]=>simp
  |[b1]=>simp
  |[b1,b2]=>simp
  |b1::b2::b3::t=>
   have l1:=b1.toNat_lt;have l2:=b2.toNat_lt;have l3:=b3.toNat_lt;simp only[Gak,List.getD_cons_succ,List.length_cons,List.take_succ_cons,List.take_zero,YN,YbN];by_cases d1:b1.toNat / 64=2
   ·by_cases d2:b2.toNat / 64=2
    ·by_cases d3:b3.toNat / 64=2
     ·have hv:64*(64*(64*((b0.toNat:Int)-240)+b1.toNat-128)+b2.toNat-128)+b3.toNat-128=((b0.toNat % 8*262144+b1.toNat % 64*4096+b2.toNat % 64*64+b3.toNat % 64:Nat):Int):=by omega
      have hn:¬(4=0∨t.length+1+1+1+1<4):=by omega
      simp only[d1,d2,d3,not_true_eq_false,GG,hv,hn];obtain⟨v,hve⟩:∃v,b0.toNat % 8*262144+b1.toNat % 64*4096+b2.toNat % 64*64+b3.toNat % 64=v:=⟨_,rfl⟩;rw[hve];by_cases c:65536≤v∧v≤1114111
      ·have hD:(if (1<t.length+1+1+1+1∧True)∧(2<t.length+1+1+1+1∧True)∧(3<t.length+1+1+1+1∧True)∧65536≤v∧v≤1114111 then (v,4) else ((65533,1):Nat×Nat))=(v,4):=GC ⟨⟨by omega,Gm⟩,⟨by omega,Gm⟩,⟨by omega,Gm⟩,c.1,c.2⟩;rw[hD,GA (by omega),GA (by intro e;simp at e)]
      ·have hD:(if (1<t.length+1+1+1+1∧True)∧(2<t.length+1+1+1+1∧True)∧(3<t.length+1+1+1+1∧True)∧65536≤v∧v≤1114111 then (v,4) else ((65533,1):Nat×Nat))=(65533,1):=GA (fun e=>c ⟨e.2.2.2.1,e.2.2.2.2⟩);rw[hD,GC (by omega),GC rfl]
     ·simp[d1,d2,d3]
    ·simp[d1,d2]
   ·simp[d1]
 rw[Yel (by omega),show cls b0.toNat=(0,0,(b0.toNat:Int)) from by rw[cls,GA (by omega),GA (by omega),GA (by omega)]];simp
theorem Ybm {l:List UInt8} (h:l≠[]):dN l=(65533,1)∨(∃b0 t,l=b0::t∧b0.toNat<128∧dN l=(b0.toNat,1))∨
  (∃b0 b1 t,l=b0::b1::t∧(194≤b0.toNat∧b0.toNat<224)∧b1.toNat / 64=2∧dN l=(b0.toNat % 32*64+b1.toNat % 64,2))∨
  (∃b0 b1 b2 t,l=b0::b1::b2::t∧(224≤b0.toNat∧b0.toNat<240)∧b1.toNat / 64=2∧b2.toNat / 64=2∧2048≤b0.toNat % 16*4096+b1.toNat % 64*64+b2.toNat % 64∧dN l=(b0.toNat % 16*4096+b1.toNat % 64*64+b2.toNat % 64,3))∨
  (∃b0 b1 b2 b3 t,l=b0::b1::b2::b3::t∧(240≤b0.toNat∧b0.toNat<245)∧b1.toNat / 64=2∧b2.toNat / 64=2∧b3.toNat / 64=2∧65536≤b0.toNat % 8*262144+b1.toNat % 64*4096+b2.toNat % 64*64+b3.toNat % 64∧dN l=(b0.toNat % 8*262144+b1.toNat % 64*4096+b2.toNat % 64*64+b3.toNat % 64,4)):=by
 obtain⟨b0,t,rfl⟩:=List.exists_cons_of_ne_nil h
 have l0:=b0.toNat_lt
 have e0:(b0::t).getD 0 0=b0:=rfl
 have e1:(b0::t).getD 1 0=t.getD 0 0:=rfl
 have e2:(b0::t).getD 2 0=t.getD 1 0:=rfl
 have e3:(b0::t).getD 3 0=t.getD 2 0:=rfl
 by_cases c1:b0.toNat<128
 ·exact .inr (.inl ⟨b0,t,rfl,c1,by rw[dN,e0,Yem c1]⟩)
 by_cases c2:194≤b0.toNat∧b0.toNat<224
 ·match t with
  |[]=>left;rw[dN,e0,Ydm c2];simp
  |b1::t=>
   by_cases d:b1.toNat / 64=2
   ·exact .inr (.inr (.inl ⟨b0,b1,t,rfl,c2,d,by rw[dN,e0,Ydm c2,GC ⟨by simp,by simpa [e1] using d⟩];rfl⟩))
   ·left;rw[dN,e0,Ydm c2,GA (fun e=>d (by simpa [e1] using e.2))]
 by_cases c3:224≤b0.toNat∧b0.toNat<240
 ·match t with
  |[]=>left;rw[dN,e0,Ydn c3];simp
  |[b1]=>left;rw[dN,e0,Ydn c3];simp
  |b1::b2::t=>
   have g1:(b0::b1::b2::t).getD 1 0=b1:=rfl
   have g2:(b0::b1::b2::t).getD 2 0=b2:=rfl
   rw[dN,e0,g1,g2,Ydn c3]
   split
   ·rename_i hc
    exact .inr (.inr (.inr (.inl ⟨b0,b1,b2,t,rfl,c3,hc.1.2,hc.2.1.2,hc.2.2.1,rfl⟩)))
   ·exact .inl rfl
 by_cases c4:240≤b0.toNat∧b0.toNat<245
 ·match t with
  |[]=>left;rw[dN,e0,YcY c4];simp
  |[b1]=>left;rw[dN,e0,YcY c4];simp
  |[b1,b2]=>left;rw[dN,e0,YcY c4];simp
  |b1::b2::b3::t=>
   have g1:(b0::b1::b2::b3::t).getD 1 0=b1:=rfl
   have g2:(b0::b1::b2::b3::t).getD 2 0=b2:=rfl
   have g3:(b0::b1::b2::b3::t).getD 3 0=b3:=rfl
   rw[dN,e0,g1,g2,g3,YcY c4]
   split
   ·rename_i hc
    exact .inr (.inr (.inr (.inr ⟨b0,b1,b2,b3,t,rfl,c4,hc.1.2,hc.2.1.2,hc.2.2.1.2,hc.2.2.2.1,rfl⟩)))
   ·exact .inl rfl
 ·left;rw[dN,e0,Yel (by omega)]
def Yn:List Int→List Int→Int
 |[],[]=>0
 |[],_::_=>-1
 |_::_,[]=>1
 |a::l,b::k=>if a<b then -1 else if b<a then 1 else Yn l k
theorem YaW {a b:Int} {l k:List Int} (h:a<b):Yn (a::l) (b::k)=-1:=by simp[Yn,h]
theorem Ybd {a b:Int} {l k:List Int} (h:b<a):Yn (a::l) (b::k)=1:=by
 have:¬a<b:=by omega
 simp[Yn,h,this]
theorem Ybc {a:Int} {l k:List Int}:Yn (a::l) (a::k)=Yn l k:=by simp[Yn]
end Sg
namespace Sg
open _root_.Go (IntKind BinOp UnOp)
variable {Pg:PgT}
@[go_sem] theorem Yfb {b:UInt8} {t:List UInt8} {k:IntKind}:Jed (.str (b::t)) (.int k 0)=some (.int .u8 b.toNat):=rfl
@[go_sem high] theorem Yfa {s:List UInt8} {z:Nat} {k:IntKind} {n:Nat} (h:n≤s.length):slV true z (.str s) (some (.int k (n:Int))) none=some (.str (s.drop n)):=by
 simp[slV,bound,h]
def H191 (Pg:PgT):Prop:=Pg 191=some (.code F191)
theorem K191 (h:H191 Pg) (r n:Int):K' Pg 191 [.int .i32 r,.int .i64 n]=some (.bool (plainR r n)):=by
 refine JdB h rfl ?_;simp only[go_sem];cases c1:decide (33≤r)<;>cases c2:decide (r<127)<;>cases c3:decide (159<r)<;>cases c4:decide (r=65533)<;>cases c5:decide (n=3) <;>
  simp only[go_sem,plainR,c1,c2,c3,c4,c5]
def H190 (Pg:PgT):Prop:=Pg 190=some (.prim none decQ)
theorem K190 (h:H190 Pg) (s:List UInt8):K' Pg 190 [.str s]=some (.tuple [.int .i32 (JeM s).1,.int .i64 (JeM s).2]):=by
 rw[JfU h];rfl
def H170 (Pg:PgT):Prop:=Pg 170=some (.prim none keyQ)
theorem K170 (h:H170 Pg) (s:List UInt8):K' Pg 170 [.str s]=some (.bool (keyR s)):=by
 rw[JfU h];rfl
end Sg
namespace Sg
open _root_.Go _root_.Go.RowKit _root_.Go.Proofs
def plainFm:List (Nat×Nat):=[(191,138)]
theorem okPlain:okF Tryz.prog (cxU plainFm) (onePg 191 F191) 138 F191=true:=by kernel_rfl
theorem plain_walk (r n:Int) (w:World) (hgn:2≤w.heap.size) (hT:Lib.Utf8Tabs 0 1 w) :
  Calls Tryz.prog 138 #[.int .i32 r,.int .i64 n] w fun e w'=>e=.returned (.bool (plainR r n))∧Below w.heap.size w w':=by
 have hk:K' (onePg 191 F191) 191 [.int .i32 r,.int .i64 n]=some (.bool (plainR r n)):=K191 (by simp[H191,onePg]) r n
 obtain⟨m,hm⟩:=K'_iff.1 hk
 have hc:=one_sound (P:=Tryz.prog) (cx:=cxU plainFm) (id:=191) (F:=F191) (by kernel_rfl) okPlain m 191 _ _ hm
 refine (hc.2 w (fun _=>False) #[.int .i32 r,.int .i64 n] (fun b hb=>hb.elim) hgn hT rfl (fun i hi=>by
  match i,hi with
  |0,_=>exact⟨_,rfl,.int _ _⟩
  |1,_=>exact⟨_,rfl,.int _ _⟩
  |k+2,hi=>exact absurd hi (by simp))).mono fun e w' ⟨v,he,hb,hr⟩=>?_
 have hr:=hr.data (fun b hb=>hb.elim)
 cases hr
 exact⟨he,hb⟩
theorem decCt (l:List (Nat×Nat)) (id:Nat) (h:(cxU l).fm id=137):∀args r,decQ args=some r→Ctr Tryz.prog (cxU l) none id args r:=
 dec_ctr (by rw[h];exact⟨_,Tryz.func137,by kernel_rfl,by kernel_rfl⟩) fun s w hG=>by rw[h];exact dec_walk s w hG
theorem keyCt (l:List (Nat×Nat)) (id:Nat) (h:(cxU l).fm id=70):∀args r,keyQ args=some r→Ctr Tryz.prog (cxU l) none id args r:=
 key_ctr (by rw[h];exact⟨_,Tryz.func70,by kernel_rfl,by kernel_rfl⟩) fun s w hgn hG=>by rw[h];exact key_walk s w hgn hG plain_walk
end Sg
namespace Sg
open _root_.Go (IntKind BinOp UnOp)
variable {Pg:PgT}
noncomputable def Ybl (c:Nat):Nat:=Nat.xor (Nat.shiftRight c 1) (@Bool.rec (fun _=>Nat) 0 2197175160 (Nat.beq (Nat.mod c 2) 1))
noncomputable def Yek (c b:Nat):Nat:=Ybl (Ybl (Ybl (Ybl (Ybl (Ybl (Ybl (Ybl (Nat.xor c b))))))))
noncomputable def YbH (s:List UInt8):Nat→Nat:=@List.rec UInt8 (fun _=>Nat→Nat) (fun c=>c) (fun b _ ih c=>ih (Yek c b.toNat)) s
noncomputable def YcX (s:List UInt8):Nat:=Nat.xor 4294967295 (YbH s 4294967295)
theorem YaG {c:Nat} (h:c<2 ^ 32):Ybl c<2 ^ 32:=by
 unfold Ybl;refine Nat.xor_lt_two_pow ?_ ?_
 ·show c >>> 1<_
  rw[Nat.shiftRight_eq_div_pow];omega
 ·cases Nat.beq (Nat.mod c 2) 1<;>decide
theorem Ydk {c b:Nat} (h:c<2 ^ 32) (hb:b<256):Yek c b<2 ^ 32:=
 YaG (YaG (YaG (YaG (YaG (YaG (YaG (YaG (Nat.xor_lt_two_pow h (Nat.lt_trans hb (by decide))))))))))
theorem YcV (s t:List UInt8) (c:Nat):YbH (s++t) c=YbH t (YbH s c):=by
 induction s generalizing c with
 |nil=>rfl
 |cons b s ih=>exact ih _
theorem Yca (s:List UInt8):∀c,c<2 ^ 32→YbH s c<2 ^ 32:=by
 induction s with
 |nil=>intro c h;exact h
 |cons b s ih=>intro c h;exact ih _ (Ydk h b.toNat_lt)
theorem Yeb {n:Nat} (h:n<2 ^ 32):IntKind.u32.wrap (n:Int)=(n:Int):=by
 have:=_root_.Go.IntWalk.u32_in (n:Int) ⟨by omega,by omega⟩;exact this
theorem YcM {a b:Nat} (ha:a<2 ^ 32) (hb:b<2 ^ 32):Ji .xor .u32 (a:Int) (b:Int)=some (.int .u32 ((Nat.xor a b:Nat):Int)):=by
 show some (V.int .u32 (IntKind.u32.wrap ((BitVec.ofInt 32 (a:Int) ^^^ BitVec.ofInt 32 (b:Int)).toNat:Int)))=_
 rw[BitVec.ofInt_natCast,BitVec.ofInt_natCast,BitVec.toNat_xor,BitVec.toNat_ofNat,BitVec.toNat_ofNat,Nat.mod_eq_of_lt ha,Nat.mod_eq_of_lt hb];rw[Yeb (Nat.xor_lt_two_pow ha hb)];rfl
theorem YdA {c:Nat} (h:c<2 ^ 32):(shV .shr (.int .u32 (c:Int)) (.int .u64 1)).bind (fun x=>(Jdc .and (.int .u32 (c:Int)) (.int .u32 1)).bind fun y=>(unV .neg y).bind fun y=>(Jdc .and (.int .u32 2197175160) y).bind fun y=>Jdc .xor x y)=some (.int .u32 ((Ybl c:Nat):Int)):=by
 have e1:shV .shr (.int .u32 (c:Int)) (.int .u64 1)=some (.int .u32 ((c >>> 1:Nat):Int)):=by
  show some (V.int .u32 ((c:Int).fdiv (2 ^ (min (Int.toNat 1) 32))))=_
  rw[show min (Int.toNat 1) 32=1 from rfl,Nat.shiftRight_eq_div_pow];rw[show ((2:Int) ^ 1)=((2 ^ 1:Nat):Int) from rfl,Int.fdiv_eq_ediv_of_nonneg _ (by omega)]
  rfl
 have e2:Jdc .and (.int .u32 (c:Int)) (.int .u32 1)=some (.int .u32 ((c % 2:Nat):Int)):=by
  show some (V.int .u32 (IntKind.u32.wrap ((BitVec.ofInt 32 (c:Int) &&& BitVec.ofInt 32 1).toNat:Int)))=_
  rw[BitVec.ofInt_natCast,BitVec.toNat_and,BitVec.toNat_ofNat,Nat.mod_eq_of_lt h];rw[show (BitVec.ofInt 32 1).toNat=1 from rfl,Nat.and_one_is_mod,Yeb (by omega)]
 rw[e1,e2];simp only[Option.bind_some];have hs:c >>> 1<2 ^ 32:=by rw[Nat.shiftRight_eq_div_pow];omega
 unfold Ybl;rw[show Nat.mod c 2=c % 2 from rfl];rcases Nat.mod_two_eq_zero_or_one c with q|q
 ·rw[q]
  show (unV .neg (.int .u32 ((0:Nat):Int))).bind _=_
  rw[show unV .neg (.int .u32 ((0:Nat):Int))=some (.int .u32 ((0:Nat):Int)) from rfl,Option.bind_some];rw[show Jdc .and (.int .u32 2197175160) (.int .u32 ((0:Nat):Int))=some (.int .u32 ((0:Nat):Int)) from (JfY .u32 _ _).symm,Option.bind_some]
  show Ji .xor .u32 _ _=_
  rw[YcM hs (by decide)];rfl
 ·rw[q]
  show (unV .neg (.int .u32 ((1:Nat):Int))).bind _=_
  rw[show unV .neg (.int .u32 ((1:Nat):Int))=some (.int .u32 ((4294967295:Nat):Int)) from rfl,Option.bind_some];rw[show Jdc .and (.int .u32 2197175160) (.int .u32 ((4294967295:Nat):Int))=some (.int .u32 ((2197175160:Nat):Int)) from (JfY .u32 _ _).symm,Option.bind_some]
  show Ji .xor .u32 _ _=_
  rw[YcM hs (by decide)];rfl
noncomputable def YcW:Nat→Nat→Nat
 |0,c=>c
 |j+1,c=>Ybl (YcW j c)
theorem YcB {c:Nat} (h:c<2 ^ 32):∀j,YcW j c<2 ^ 32
 |0=>h
 |j+1=>YaG (YcB h j)
theorem Ydg {a b:Nat} (ha:a<2 ^ 32) (hb:b<2 ^ 32):IntKind.u32.wrap ((BitVec.ofInt 32 (a:Int) ^^^ BitVec.ofInt 32 (b:Int)).toNat:Int)=((Nat.xor a b:Nat):Int):=by
 have h:some (V.int IntKind.u32 (IntKind.u32.wrap ((BitVec.ofInt 32 (a:Int) ^^^ BitVec.ofInt 32 (b:Int)).toNat:Int)))=some (V.int .u32 ((Nat.xor a b:Nat):Int)):=YcM ha hb;injection h with h
 injection h
theorem Yec {a b:Nat} (ha:a<2 ^ 32) (hb:b<2 ^ 32):IntKind.u32.wrap ((BitVec.ofInt IntKind.u32.bits (a:Int) ^^^ BitVec.ofInt IntKind.u32.bits (b:Int)).toNat:Int)=((Nat.xor a b:Nat):Int):=Ydg ha hb
theorem Ye8 {s:List UInt8}:unV .xor (.int .u32 ((YbH s 4294967295:Nat):Int))=some (.int .u32 ((YcX s:Nat):Int)):=YcM (a:=4294967295) (by decide) (Yca s _ (by decide))
theorem r586_run {κ:Nat→List V→Option V} {S:St} {c:Nat} (h3:S.ρ 3=.int .u32 (c:Int)) (hc:c<2 ^ 32):Jz κ r586_8 0 (fun _=>.undef) S=some {S with ρ:=upd S.ρ 3 (.int .u32 ((Ybl c:Nat):Int))}:=by
 have h:=YdA hc;simp only[Gb] at h;obtain⟨x,h1,y,h2,z,h4,w,h5,h6⟩:=h;have k1:∀(e:Nat→V) (S:St),argv e S.ρ (.g 3)=S.ρ 3:=fun _ _=>rfl;have e8 : r586_8 = [⟨some 18, false, .mov (.g 3), none⟩, ⟨some 19, false, .sh .shr (.l 0) (.c (.int .u64 1)), none⟩, ⟨some 20, false, .mov (.g 3), none⟩, ⟨some 21, false, .bin .and (.l 2) (.c (.int .u32 1)), none⟩, ⟨some 22, false, .un .neg (.l 3), none⟩, ⟨some 23, false, .bin .and (.c (.int .u32 2197175160)) (.l 4), none⟩, ⟨some 24, false, .bin .xor (.l 1) (.l 5), none⟩, ⟨some 3, true, .mov (.l 6), none⟩] := rfl;simp only[e8,Jz,step,Jq,ev,argv,h3,Option.bind_some,h1,St.put,Option.getD_some];have u:∀(f:Nat→V) (i j:Nat) (v:V),(i == j)=false→upd f j v i=f i:=fun f i j v q=>by
  unfold upd;rw[GA (by simpa using q)]
 have u':∀(f:Nat→V) (j:Nat) (v:V),upd f j v j=v:=fun f j v=>by unfold upd;rw[GC rfl]
 simp only[u',u _ 0 1 _ rfl,u _ 1 2 _ rfl,u _ 2 3 _ rfl,u _ 1 4 _ rfl,u _ 1 3 _ rfl,u _ 3 4 _ rfl,u _ 4 5 _ rfl,u _ 5 6 _ rfl,h1,h2,h4,h5,h6,Option.bind_some];simp only[h3,h2,h4,h5,Option.bind_some];simp[upd,h6]
def H586 (Pg:PgT):Prop:=Pg 586=some (.code F586)
theorem K586 (h:H586 Pg) (s:List UInt8) (hs:s.length<2 ^ 62):K' Pg 586 [.str s]=some (.int .u32 ((YcX s:Nat):Int)):=by
 refine JdB h rfl ?_;simp only[go_sem];unfold l586_0;refine Jms (fun (i:Nat) S=>i≤s.length∧S.ρ 0=.str s∧S.ρ 6=iz s.length∧S.ρ 7=iz i∧S.ρ 3=.int .u32 ((YbH (s.take i) 4294967295:Nat):Int)) (fun i=>s.length-i) 0 ?_ ?_
 ·exact⟨Gae _,rfl,rfl,rfl,rfl⟩
 ·intro i S ⟨hi,s0,s6,s7,s3⟩;have hlt3:=Yca (s.take i) 4294967295 (by decide);cases c1:decide ((i:Int)<(s.length:Int)) with
  |false=>
   have:i=s.length:=by have:=Gk c1;omega
   subst this;rw[GP] at s3 hlt3;simp only[go_sem,s6,s7,s3,c1,Ye8]
  |true=>
   have hlt:=Yi c1;obtain⟨b,hb,-⟩:=Jl8 hlt;have hinc:=inc64q (i:=i) (by omega)
   have hw:=Yeb (n:=b.toNat) (by have:=b.toNat_lt;omega);have hx:=Yec hlt3 (show b.toNat<2 ^ 32 by have:=b.toNat_lt;omega);simp only[go_sem,s0,s6,s7,s3,c1,hb,hw,hx];unfold l586_1;have hb2:=b.toNat_lt;have hc0:Nat.xor (YbH (s.take i) 4294967295) b.toNat<2 ^ 32:=Nat.xor_lt_two_pow hlt3 (Nat.lt_trans hb2 (by decide));refine Jms (fun (j:Nat) S=>j≤8∧S.ρ 0=.str s∧S.ρ 6=iz s.length∧S.ρ 7=iz i∧S.ρ 16=iz j∧S.ρ 3=.int .u32 ((YcW j (Nat.xor (YbH (s.take i) 4294967295) b.toNat):Nat):Int)) (fun j=>8-j) 0 ?_ ?_
   ·refine⟨by omega,by simp only[go_sem,s0],by simp only[go_sem,s6],by simp only[go_sem,s7],by simp only[go_sem],?_⟩;simp only[go_sem];exact congrArg (V.int IntKind.u32) (Ydg hlt3 (Nat.lt_trans hb2 (by decide)))
   ·intro j S ⟨hj,t0,t6,t7,t16,t3⟩;cases c2:decide ((j:Int)<8) with
    |false=>
     have:j=8:=by have:=Gk c2;omega
     subst this;simp only[go_sem,t0,t6,t7,t16,t3,c2,hinc];refine⟨i+1,by omega,by omega,rfl,?_⟩;rw[GT,hb]
     show _=V.int IntKind.u32 ((YbH (s.take i++[b]) 4294967295:Nat):Int)
     rw[YcV]
     rfl
    |true=>
     have hj8:=Gp c2;have hjn:=inc64q (i:=j) (by omega)
     have hk:∀(S:St) (Q:St→Prop),S.ρ 3=.int .u32 ((YcW j (Nat.xor (YbH (s.take i) 4294967295) b.toNat):Nat):Int)→Q {S with ρ:=upd S.ρ 3 (.int .u32 ((YcW (j+1) (Nat.xor (YbH (s.take i) 4294967295) b.toNat):Nat):Int))}→Wr (K' Pg) r586_8 0 (fun _=>.undef) S Q:=
      fun S Q h3 hq=>⟨_,r586_run h3 (YcB hc0 j),hq⟩
     unfold b586_1;generalize r586_8=ops8 at hk ⊢;simp only[go_sem,t0,t6,t7,t16,c2];refine hk _ _ (by simp only[go_sem,t3]) ?_;simp only[go_sem,t0,t6,t7,t16,hjn];exact⟨j+1,by omega,by omega,rfl,rfl⟩
noncomputable def crcQ:List V→Option V
 |[.str s]=>bif Nat.blt (Jt s) 4611686018427387904 then some (.int .u32 ((YcX s:Nat):Int)) else none
 |_=>none
theorem Ydl (h:H586 Pg) (a:List V) (r:V) (ha:crcQ a=some r):K' Pg 586 a=some r:=by
 unfold crcQ at ha;split at ha
 ·rename_i s;rw[Jm] at ha;cases q:Nat.blt s.length 4611686018427387904 with
  |false=>rw[q] at ha;cases ha
  |true=>rw[q] at ha;rw[K586 h s (Nat.le_of_ble_eq_true q)];exact ha
 ·cases ha
def putB (n:Nat):List UInt8:=if h:n<128 then [UInt8.ofNat n] else UInt8.ofNat (n % 128+128)::putB (n / 128)
termination_by n
decreasing_by omega
theorem Yam {n:Nat} (h:n<128):putB n=[UInt8.ofNat n]:=by rw[putB,dif_pos h]
theorem YaJ {n:Nat} (h:128≤n):putB n=UInt8.ofNat (n % 128+128)::putB (n / 128):=by rw[putB,dif_neg (by omega)]
theorem Yad {n:Nat} (h:n<256):(UInt8.ofNat n).toNat=n:=by
 simp[UInt8.toNat_ofNat'];omega
theorem YY (n:Nat):1≤(putB n).length:=by
 rw[putB];split<;>simp
theorem Ya0:∀(k n:Nat),(putB n).length≤k+1↔n<128 ^ (k+1)
 |0,n=>by
  by_cases hn:n<128
  ·rw[Yam hn];simpa using hn
  ·rw[YaJ (by omega)];have:=YY (n / 128);simp only[List.length_cons];constructor
   ·intro h;omega
   ·intro h;simp at h;omega
 |k+1,n=>by
  by_cases hn:n<128
  ·rw[Yam hn];simp only[List.length_singleton];refine⟨fun _=>?_,fun _=>by omega⟩;have:128 ^ 1≤128 ^ (k+1+1):=Nat.pow_le_pow_right (by omega) (by omega);omega
  ·rw[YaJ (by omega)];simp only[List.length_cons];have:=Ya0 k (n / 128);rw[Nat.add_le_add_iff_right,this,Nat.pow_succ 128 (k+1),Nat.div_lt_iff_lt_mul (by omega)]
theorem YC {n:Nat}:(putB n).length≤9↔n<2 ^ 63:=by
 have e:(128:Nat) ^ (8+1)=2 ^ 63:=by decide
 rw[Ya0 8 n,e]
def Yt (t:List UInt8):List UInt8:=putB t.length++t
def Yq (b:Bool):List UInt8:=[if b then 1 else 0]
@[go_sem] def Yh (l:List Int):V:=.slice 1 (l.map fun a=>[iz a])
def Yb0:List Int→Int→Nat→Int
 |[],_,_=>-1
 |a::l,n,i=>if n=a then i else Yb0 l n (i+1)
theorem Ycj:∀{l:List Int} {n:Int} {i:Nat},decide (0≤Yb0 l n i)=decide (n∈l)
 |[],n,i=>by simp[Yb0]
 |a::l,n,i=>by
  simp only[Yb0];split
  ·rename_i h;simp[h]
  ·rename_i h;rw[Ycj];simp[h]
def H75 (Pg:PgT):Prop:=Pg 75=some (.code F75)
theorem K75 (h:H75 Pg) (l:List Int) (n:Int) (hl:l.length<2 ^ 60):K' Pg 75 [Yh l,iz n]=some (iz (Yb0 l n 0)):=by
 refine JdB h rfl ?_;simp only[go_sem];unfold l75_0;refine Jms (fun (i:Nat) S=>i≤l.length∧S.ρ 0=Yh l∧S.ρ 1=iz n∧S.ρ 7=iz l.length∧S.ρ 8=iz i∧Yb0 (l.drop i) n i=Yb0 l n 0) (fun i=>l.length-i) 0 ?_ ?_
 ·simp[go_sem]
 ·intro i S ⟨hi,h0,h1,h7,h8,ho⟩;simp only[go_sem,h7,h8];refine Jmt (fun h=>?_) (fun h=>?_)
  ·have h:=Yi h;obtain⟨x,hx,hd⟩:=Jl8 h;rw[hd] at ho;simp only[go_sem,h0,h1,h8,hx];refine Jmt (fun hc=>?_) (fun hc=>?_)
   ·have hc:n=x:=Gp hc;simp only[Yb0,hc,GF] at ho;simp only[go_sem,←ho,hc]
   ·have hc:¬n=x:=Gk hc;simp only[Yb0,hc,GG] at ho;simp only[go_sem,h0,h1,h7,h8];exact⟨i+1,by omega,by omega,by rw[Yj h hl],ho⟩
  ·have h:=Yo hi h;subst h;simp only[Gag,Yb0] at ho;simp only[go_sem,←ho]
def H65 (Pg:PgT):Prop:=Pg 65=some (.code F65)∧H75 Pg
theorem K65 (h:H65 Pg) (l:List Int) (n:Int) (hl:l.length<2 ^ 60):K' Pg 65 [Yh l,iz n]=some (.bool (decide (n∈l))):=by
 obtain⟨h,h75⟩:=h;refine JdB h rfl ?_;have k75:=K75 h75 l n hl;simp only[Yh] at k75;simp only[go_sem,k75,Ycj]
def YbZ:List Int→(Int→Bool)→Nat→Int
 |[],_,_=>-1
 |a::l,p,i=>if p a then i else YbZ l p (i+1)
theorem Yci:∀{l:List Int} {p:Int→Bool} {i:Nat},decide (0≤YbZ l p i)=l.any p
 |[],n,i=>by simp[YbZ]
 |a::l,n,i=>by
  simp only[YbZ];split
  ·rename_i h;simp[h]
  ·rename_i h;rw[Yci];simp[h]
def H76 (Pg:PgT):Prop:=Pg 76=some (.code F76)
theorem K76 (h:H76 Pg) (l:List Int) (g:Nat) (cap:List V) (p:Int→Bool) (hl:l.length<2 ^ 60) (hcap:cap.all V.datC=true) (hg:∀x∈l,K' Pg g (iz x::cap)=some (.bool (p x))) :
  K' Pg 76 [Yh l,.func g cap]=some (iz (YbZ l p 0)):=by
 refine JdB h rfl ?_
 simp only[go_sem]
 unfold l76_0
 refine Jms (fun (i:Nat) S=>i≤l.length∧S.ρ 0=Yh l∧S.ρ 1=.func g cap∧S.ρ 7=iz l.length∧S.ρ 8=iz i∧YbZ (l.drop i) p i=YbZ l p 0) (fun i=>l.length-i) 0 ?_ ?_
 ·simp[go_sem]
 ·intro i S ⟨hi,h0,h1,h7,h8,ho⟩
  simp only[go_sem,h7,h8]
  refine Jmt (fun h=>?_) (fun h=>?_)
  ·have h:=Yi h
   obtain⟨x,hx,hd⟩:=Jl8 h
   rw[hd] at ho
   have hgx:=hg x (List.mem_of_getElem? hx)
   simp only[go_sem,h0,h1,h8,hx,hgx]
   refine Jmt (fun hc=>?_) (fun hc=>?_)
   ·simp only[YbZ,hc,GF] at ho
    simp only[go_sem,←ho]
   ·simp only[YbZ,hc,Gr,GG] at ho
    simp only[go_sem,h0,h1,h7,h8]
    exact⟨i+1,by omega,by omega,by rw[Yj h hl],ho⟩
  ·have h:=Yo hi h
   subst h
   simp only[Gag,YbZ] at ho
   simp only[go_sem,←ho]
def H67 (Pg:PgT):Prop:=Pg 67=some (.code F67)∧H76 Pg
theorem K67 (h:H67 Pg) (l:List Int) (g:Nat) (cap:List V) (p:Int→Bool) (hl:l.length<2 ^ 60) (hcap:cap.all V.datC=true) (hg:∀x∈l,K' Pg g (iz x::cap)=some (.bool (p x))) :
  K' Pg 67 [Yh l,.func g cap]=some (.bool (l.any p)):=by
 obtain⟨h,h76⟩:=h
 refine JdB h rfl ?_
 have k76:=K76 h76 l g cap p hl hcap hg
 simp only[Yh] at k76
 simp only[go_sem,k76,Yci]
def SetP (l:List Int):Prop:=l.length≤8∧(∀m∈l,1≤m∧m≤255)∧l.Nodup
instance (l:List Int):Decidable (SetP l):=inferInstanceAs (Decidable (_∧_∧_))
def rowB (b:UInt8):List V:=[.int .u8 b.toNat]
theorem Ycu (l:List UInt8):bytesR (l.map rowB)=some l:=JdZ l
theorem Yd4 {n:Nat} (h:n<256):rowB (UInt8.ofNat n)=[.int .u8 n]:=by simp[rowB,Yad h]
theorem u8w {n:Nat}:IntKind.u8.wrap (n:Int)=((n % 256:Nat):Int):=by simp[IntKind.wrap,IntKind.bits,IntKind.signed]
theorem YeH (n:Nat):IntKind.u8.wrap ((BitVec.ofInt 8 (IntKind.u8.wrap (n:Int)) ||| BitVec.ofInt 8 128).toNat:Int)=((n % 128+128:Nat):Int):=by
 have key:∀x:Fin 256,IntKind.u8.wrap ((BitVec.ofInt 8 ((x.1:Nat):Int) ||| BitVec.ofInt 8 128).toNat:Int)=((x.1 % 128+128:Nat):Int):=by decide
 rw[u8w (n:=n)];have:=key ⟨n % 256,by omega⟩;simp only at this;rw[this];omega
theorem Ycv (l:List UInt8) (n:Nat):bytesR (l.map rowB++[[.int .u8 (n:Int)]])=some (l++[UInt8.ofNat n]):=by
 induction l with
 |nil=>simp[bytesR]
 |cons b l ih=>
  show bytesR (rowB b::(l.map rowB++_))=_
  simp only[rowB,bytesR,ih];simp
theorem YeL (n:Nat):((n:Int).fdiv (2 ^ 7))=((n / 128:Nat):Int):=by
 have:((2:Int) ^ 7)=((128:Nat):Int):=rfl;rw[this];exact (Int.ofNat_fdiv n 128).symm
def H456 (Pg:PgT):Prop:=Pg 456=some (.code F456)
theorem K456 (h:H456 Pg) (n:Nat) (hn:n<2 ^ 63):K' Pg 456 [iz n]=some (.tuple [.str (putB n),iz 0]):=by
 refine JdB h rfl ?_;have c0:decide ((n:Int)<0)=false:=Ge (by omega);simp only[F456,c456,go_sem,c0];unfold l456_0;refine Jms (fun (m:Nat) S=>∃pre:List UInt8,pre++putB m=putB n∧S.ρ 0=iz m∧S.ρ 4=.own 4 1 pre.length∧S.A 4=some (1,pre.map rowB,.live)) (fun m=>m) n ?_ ?_
 ·exact⟨[],rfl,rfl,rfl,rfl⟩
 ·intro m S ⟨pre,hp,s0,s4,a4⟩;have hlen:pre.length+1≤9:=by
   have h1:=YC.2 hn;have h2:=YY m;rw[←hp,Gc] at h1;omega
  have hlim:pre.length+1≤lim:=by unfold lim;omega
  cases c1:decide ((128:Int)≤m) with
  |true=>
   have h128:128≤m:=by have:=Gp c1;omega
   rw[YaJ h128] at hp;have w7:((m:Int).fdiv (2 ^ min (Int.toNat 7) 64))=((m / 128:Nat):Int):=YeL m;have hsh:shV .shr (iz m) (.int .u64 7)=some (iz ((m / 128:Nat):Int)):=by simp only[shV];rw[GA (by omega)];exact congrArg (fun x=>some (V.int .i64 x)) (YeL m)
   simp only[go_sem,s0,s4,a4,c1,Gl,hlim,hsh];refine⟨m / 128,by omega,pre++[UInt8.ofNat (m % 128+128)],by rw[←hp];simp,rfl,by rw[Gc];rfl,?_⟩;rw[Gab,Gq,Yd4 (by omega),←YeH];rfl
  |false=>
   have h128:m<128:=by have:=Gk c1;omega
   rw[Yam h128] at hp;have hw:IntKind.u8.wrap (m:Int)=(m:Int):=by rw[u8w];omega
   simp only[go_sem,s0,s4,a4,c1,hw,Gl,hlim,Ycv,hp]
def H484 (Pg:PgT):Prop:=Pg 484=some (.code F484)∧H456 Pg
theorem K484 (h:H484 Pg) (t:List UInt8) (ht:t.length<2 ^ 61):K' Pg 484 [.str t]=some (.str (Yt t)):=by
 obtain⟨h,h456⟩:=h;have k:=K456 h456 t.length (by omega);have hl:(putB t.length).length+t.length≤4611686018427387904:=by have:=YC.2 (show t.length<2 ^ 63 by omega);omega
 refine JdB h rfl ?_;simp only[F484,c484,go_sem,k,hl,Yt]
def H485 (Pg:PgT):Prop:=Pg 485=some (.code F485)
theorem K485 (h:H485 Pg) (b:Bool):K' Pg 485 [.bool b]=some (.str (Yq b)):=by
 refine JdB h rfl ?_;cases b<;>simp only[F485,c485,go_sem,Yq]<;>rfl
theorem K'_codeX {f:Nat} {F:F} {args:List V} {P:V→Prop} (hF:Pg f=some (.code F)) (hl:args.length=F.np)
  (h:Wp (K' Pg) F.body (JE args) fun ex S=>(ex=.norm∨ex=.ret)∧∃r,JbN F S=some r∧P r):∃r,K' Pg f args=some r∧P r:=by
 obtain⟨m,ex,S,h1,h2,r,h3,h4⟩:=h
 exact⟨r,JdB hF hl ⟨m,ex,S,h1,h2,h3⟩,h4⟩
theorem Yb3 {f k:Nat} {F:F} {args cs:List V} {P:V→Prop} {S0:St} (hF:Pg f=some (.codeR F k)) (hl:args.length=F.np)
  (hk:args[k]?=some (.tuple (.lref 0 0::cs))) (h0:startR args k cs=some S0)
  (h:Wp (K' Pg) F.body S0 fun ex S=>(ex=.norm∨ex=.ret)∧∃r,JaK F k S=some r∧P r):∃r,K' Pg f args=some r∧P r:=by
 obtain⟨m,ex,S,h1,h2,r,h3,h4⟩:=h
 exact⟨r,Qa hF hl hk h0 ⟨m,ex,S,h1,h2,h3⟩,h4⟩
def H580 (Pg:PgT):Prop:=Pg 580=some (.code F580)∧H586 Pg
theorem K580 (h:H580 Pg) (s:List UInt8) (hs:s.length<2 ^ 60):∃t:List UInt8,t.length=4∧K' Pg 580 [.str s]=some (.str (s++t)):=by
 obtain⟨h,h586⟩:=h;have k:=K586 h586 s (by omega);generalize YcX s=c at k;refine⟨[UInt8.ofNat (IntKind.u8.wrap (c:Int)).toNat,UInt8.ofNat (IntKind.u8.wrap ((c:Int).fdiv (2 ^ 8))).toNat,UInt8.ofNat (IntKind.u8.wrap ((c:Int).fdiv (2 ^ 16))).toNat,UInt8.ofNat (IntKind.u8.wrap ((c:Int).fdiv (2 ^ 24))).toNat],rfl,JdB h rfl ?_⟩;have c1:(s.length≤4611686018427387900)=True:=eq_true (by omega);have m1:min (Int.toNat 8) 32=8:=rfl;have m2:min (Int.toNat 16) 32=16:=rfl;have m3:min (Int.toNat 24) 32=24:=rfl;simp only[F580,c580,go_sem,k,Jmu,show ¬((8:Int)<0) by decide,show ¬((16:Int)<0) by decide,show ¬((24:Int)<0) by decide,m1,m2,m3,Jr,bytesR,List.replicate,List.set,c1]
def eTp (f l:List UInt8):List V:=[.str f,.str l,iz 0,.bool false,.bool false]
def H573 (Pg:PgT):Prop:=Pg 573=some (.code F573)
theorem K573 (h:H573 Pg) (f l:List UInt8) (hl:f.length+l.length≤1048576):K' Pg 573 [.agg (eTp f l)]=some (.bool true):=by
 have w1:IntKind.i64.wrap ((f.length:Int)+(l.length:Int))=(f.length:Int)+(l.length:Int):=Jmq (by omega) (by omega);have c1:decide ((f.length:Int)+(l.length:Int)≤1048576)=true:=Gj (by omega);have c2:decide ((0:Int)≤1099511627776)=true:=rfl;have c3:decide ((0:Int)≤0)=true:=rfl;have c4:decide ((0:Int)=0)=true:=rfl;refine JdB h rfl ?_;simp only[F573,c573,eTp,go_sem,w1,c1,c2,c3,c4]
def H581 (Pg:PgT):Prop:=Pg 581=some (.code F581)∧H573 Pg
theorem K581 (h:H581 Pg) (f l:List UInt8) (hl:f.length+l.length≤1048576):K' Pg 581 [.agg (eTp f l)]=some (iz 0):=by
 obtain⟨h,h573⟩:=h;have k:=K573 h573 f l hl;simp only[eTp] at k;refine JdB h rfl ?_;simp only[F581,c581,eTp,go_sem,k]
def H582 (Pg:PgT):Prop:=Pg 582=some (.code F582)
theorem K582 (h:H582 Pg) (f l:List UInt8):K' Pg 582 [.agg (eTp f l)]=some (.tuple [.agg (eTp f l),.bool true]):=by
 refine JdB h rfl ?_;simp only[F582,c582,eTp,go_sem]
def H571 (Pg:PgT):Prop:=Pg 571=some (.code F571)∧H581 Pg∧H582 Pg
theorem K571 (h:H571 Pg) (f s:List UInt8) (hl:f.length+s.length≤1048576):K' Pg 571 [.agg (eTp f []),.str s]=some (.tuple [.agg (eTp f s),iz 0]):=by
 obtain⟨h,h581,h582⟩:=h;have k1:=K581 h581 f [] (by simp;omega);have k2:=K582 h582 f [];simp only[eTp] at k1 k2;have w1:IntKind.i64.wrap (1048576-(f.length:Int))=1048576-(f.length:Int):=Jmq (by omega) (by omega);have w2:IntKind.i64.wrap (1048576-(f.length:Int)-0)=1048576-(f.length:Int):=by rw[Jmq (by omega) (by omega)];omega
 have c1:decide (1048576-(f.length:Int)<(s.length:Int))=false:=Ge (by omega);have c0:decide ((0:Int)=0)=true:=rfl;have c2:(s.length≤4611686018427387904)=True:=eq_true (by omega);refine JdB h rfl ?_;simp only[F571,c571,eTp,go_sem,k1,k2,w1,w2,c1,c0,c2,List.nil_append]
def H572 (Pg:PgT):Prop:=Pg 572=some (.code F572)∧H581 Pg∧H582 Pg
theorem K572 (h:H572 Pg) (f s:List UInt8) (hl:f.length+s.length≤1048576):K' Pg 572 [.agg (eTp f s)]=some (.tuple [.agg (eTp (f++s) []),iz 0]):=by
 obtain⟨h,h581,h582⟩:=h;have k1:=K581 h581 f s hl;have k2:=K582 h582 f s;simp only[eTp] at k1 k2;have c0:decide ((0:Int)=0)=true:=rfl;have c2:(f.length+s.length≤4611686018427387904)=True:=eq_true (by omega);refine JdB h rfl ?_;simp only[F572,c572,eTp,go_sem,k1,k2,c0,c2]
theorem K571n (h:H571 Pg) (f s:List UInt8) (hf:f.length≤1048576) (hs:s.length<2 ^ 60) (hl:1048576<f.length+s.length):K' Pg 571 [.agg (eTp f []),.str s]=some (.tuple [.agg (eTp f []),iz 6]):=by
 obtain⟨h,h581,h582⟩:=h;have k1:=K581 h581 f [] (by simp;omega);simp only[eTp] at k1;have w1:IntKind.i64.wrap (1048576-(f.length:Int))=1048576-(f.length:Int):=Jmq (by omega) (by omega);have w2:IntKind.i64.wrap (1048576-(f.length:Int)-0)=1048576-(f.length:Int):=by rw[Jmq (by omega) (by omega)];omega
 have c1:decide (1048576-(f.length:Int)<(s.length:Int))=true:=Gj (by omega);have c0:decide ((0:Int)=0)=true:=rfl;refine JdB h rfl ?_;simp only[F571,c571,eTp,go_sem,k1,w1,w2,c1,c0]
def H570 (Pg:PgT):Prop:=Pg 570=some (.code F570)∧H484 Pg∧H580 Pg
theorem K570 (h:H570 Pg) (b:List UInt8) (hb:b.length≤2 ^ 40):(∃t:List UInt8,t.length≤b.length+13∧K' Pg 570 [.str b]=some (.tuple [.str t,iz 0]))∨K' Pg 570 [.str b]=some (.tuple [.str [],iz 5]):=by
 obtain⟨h,h484,h580⟩:=h;have k1:=K484 h484 b (by omega);have hp:=YC.2 (show b.length<2 ^ 63 by omega);have hl:(Yt b).length≤b.length+9:=by simp only[Yt,Gc];omega
 obtain⟨t,ht,k2⟩:=K580 h580 (Yt b) (by omega);cases c1:decide ((1048576:Int)<(b.length:Int)) with
 |true=>
  refine .inr (JdB h rfl ?_);simp only[F570,c570,go_sem,c1]
 |false=>
  refine .inl ⟨Yt b++t,by simp only[Gc];omega,JdB h rfl ?_⟩;simp only[F570,c570,go_sem,k1,k2,c1]
def H555 (Pg:PgT):Prop:=Pg 555=some (.code F555)∧H570 Pg∧H571 Pg∧H572 Pg
theorem K555 (h:H555 Pg) (f b:List UInt8) (hf:f.length≤1048576) (hb:b.length≤2 ^ 40):∃(t:List UInt8) (e:Int),K' Pg 555 [.agg (eTp f []),.str b]=some (.tuple [.agg (eTp t []),iz e]):=by
 obtain⟨h,h570,h571,h572⟩:=h;have c0:decide ((0:Int)=0)=true:=rfl;have c5:decide ((5:Int)=0)=false:=rfl;have c6:decide ((6:Int)=0)=false:=rfl;rcases K570 h570 b hb with ⟨t,ht,k1⟩|k1
 ·rcases Gw 1048576 (f.length+t.length) with hl|hl
  ·have k2:=K571n h571 f t hf (by omega) hl;simp only[eTp] at k2;refine⟨f,6,JdB h rfl ?_⟩;simp only[F555,c555,eTp,go_sem,k1,k2,c0,c6]
  ·have k2:=K571 h571 f t hl;have k3:=K572 h572 f t hl;simp only[eTp] at k2 k3;refine⟨f++t,0,JdB h rfl ?_⟩;simp only[F555,c555,eTp,go_sem,k1,k2,k3,c0]
 ·refine⟨f,5,JdB h rfl ?_⟩;simp only[F555,c555,eTp,go_sem,k1,c5]
def H557 (Pg:PgT):Prop:=Pg 557=some (.code F557)∧H573 Pg
theorem K557 (h:H557 Pg) (f:List UInt8) (n:Int) (hf:f.length≤1048576):∃r,K' Pg 557 [.agg (eTp f []),iz n]=some r∧∃(k:Int) (b:Bool),r=.agg [.str f,.str [],iz k,.bool b,.bool false]:=by
 obtain⟨h,h573⟩:=h;have k1:=K573 h573 f [] (by simp;omega);simp only[eTp] at k1;refine K'_codeX h rfl ?_;simp only[F557,c557,eTp,go_sem,k1];exact⟨_,rfl,_,_,rfl⟩
def H563 (Pg:PgT):Prop:=Pg 563=some (.code F563)∧H573 Pg
theorem K563 (h:H563 Pg) (f:List UInt8) (n:Int) (hf:f.length≤1048576):K' Pg 563 [.agg (eTp f []),iz n]=some (.agg (eTp f [])):=by
 obtain⟨h,h573⟩:=h;have k1:=K573 h573 f [] (by simp;omega);simp only[eTp] at k1;have e:(if (0:Int)<if n<0 then 0 else n then 0 else if n<0 then 0 else n)=0:=by split<;>split at*<;> omega
 have c:(f.length≤4611686018427387904)=True:=eq_true (by omega);refine JdB h rfl ?_;simp only[F563,c563,eTp,go_sem,k1,e,c,Gz]
def YdD:List (Nat×Fn):=[(3,.code F3),(7,.code F7),(10,.code F10),(12,.code F12),(15,.code F15),(17,.code F17),(21,.code F21),(22,.code F22),(23,.prim (some 0) (cloneQ 5)),(25,.code F25),(26,.code F26),(27,.code F27),(28,.code F28),(29,.code F29),(30,.code F30),(31,.code F31),(32,.code F32),(39,.code F39),(40,.code F40),(41,.code F41),(43,.code F43),(44,.code F44),(45,.code F45),(47,.code F47),(51,.code F51),(54,.code F54),(57,.code F57),(61,.code F61),(62,.code F62),(63,.code F63),(64,.code F64),(65,.code F65),(66,.code F66),(67,.code F67),(68,.code F68),(69,.prim (some 0) (cloneQ 1)),(70,.code F70),(71,.code F71),(72,.code F72),(73,.code F73),(74,.code F74),(75,.code F75),(76,.code F76),(81,.code F81),(82,.code F82),(84,.code F84),(88,.code F88),(91,.code F91),(97,.code F97),(98,.code F98),(100,.code F100),(101,.code F101),(102,.prim (some 0) (cloneQ 11)),(105,.code F105),(106,.code F106),(109,.code F109),(112,.code F112),(113,.code F113),(116,.code F116),(120,.code F120),(121,.code F121),(126,.code F126),(128,.code F128),(129,.code F129),(130,.code F130),(131,.code F131),(133,.code F133),(134,.prim (some 0) (cloneQ 5)),(137,.code F137),(138,.code F138),(139,.code F139),(141,.code F141),(144,.code F144),(145,.code F145),(148,.code F148),(153,.code F153),(154,.code F154),(156,.code F156),(157,.code F157),(159,.code F159),(162,.code F162),(163,.code F163),(164,.code F164),(165,.code F165),(166,.code F166),(170,.prim none keyQ),(171,.code F171),(172,.code F172),(175,.code F175),(177,.code F177),(178,.code F178),(179,.prim (some 0) (cloneQ 5)),(185,.code F185),(186,.code F186),(190,.prim none decQ),(191,.code F191),(192,.code F192),(193,.code F193),(194,.code F194),(200,.code F200),(203,.code F203),(206,.code F206),(211,.code F211),(213,.code F213),(217,.code F217),(220,.code F220),(221,.code F221),(225,.code F225),(226,.code F226),(227,.prim (some 0) (cloneQ 2)),(240,.code F240),(244,.code F244),(247,.code F247),(249,.code F249),(253,.code F253),(256,.code F256),(258,.code F258),(261,.code F261),(262,.code F262),(265,.code F265),(266,.code F266),(267,.code F267),(270,.code F270),(271,.code F271),(273,.code F273),(275,.code F275),(284,.code F284),(285,.code F285),(286,.code F286),(287,.code F287),(288,.code F288),(289,.code F289),(290,.code F290),(291,.code F291),(298,.code F298),(299,.code F299),(301,.code F301),(302,.code F302),(303,.code F303),(304,.code F304),(307,.prim (some 0) (cloneQ 17)),(308,.code F308),(309,.code F309),(311,.code F311),(312,.code F312),(313,.code F313),(314,.code F314),(315,.code F315),(316,.code F316),(319,.code F319),(320,.code F320),(327,.code F327),(328,.code F328),(331,.code F331),(332,.code F332),(335,.code F335),(340,.code F340),(341,.code F341),(345,.code F345),(346,.code F346),(347,.code F347),(348,.code F348),(352,.code F352),(353,.code F353),(354,.code F354),(355,.code F355),(356,.code F356),(357,.code F357),(360,.code F360),(361,.code F361),(362,.code F362),(363,.code F363),(364,.code F364),(365,.code F365),(366,.code F366),(367,.code F367),(368,.code F368),(369,.code F369),(370,.code F370),(371,.code F371),(372,.code F372),(373,.prim (some 0) (cloneQ 3)),(374,.prim (some 0) (cloneQ 3)),(375,.code F375),(376,.code F376),(377,.code F377),(379,.code F379),(380,.prim (some 0) (cloneQ 1)),(381,.code F381),(383,.code F383),(384,.code F384),(385,.prim (some 0) (cloneQ 7)),(395,.code F395),(396,.code F396),(397,.code F397),(399,.code F399),(401,.code F401),(402,.code F402),(406,.code F406),(407,.code F407),(408,.code F408),(413,.code F413),(421,.codeR F421 0),(422,.codeR F422 0),(423,.codeR F423 0),(424,.code F424),(427,.code F427),(428,.code F428),(429,.code F429),(430,.code F430),(431,.code F431),(432,.code F432),(437,.code F437),(438,.code F438),(439,.code F439),(440,.code F440),(441,.code F441),(442,.code F442),(443,.code F443),(444,.code F444),(455,.code F455),(456,.code F456),(457,.codeR F457 0),(458,.codeR F458 0),(459,.code F459),(460,.code F460),(461,.code F461),(462,.code F462),(463,.code F463),(464,.codeR F464 0),(465,.codeR F465 0),(466,.codeR F466 0),(467,.codeR F467 0),(468,.code F468),(473,.code F473),(474,.code F474),(475,.code F475),(476,.code F476),(477,.code F477),(478,.code F478),(483,.code F483),(484,.code F484),(485,.code F485),(486,.code F486),(487,.code F487),(488,.code F488),(489,.code F489),(490,.code F490),(491,.code F491),(492,.codeR F492 0),(493,.codeR F493 0),(496,.code F496),(497,.prim (some 0) (cloneQ 9)),(499,.code F499),(500,.code F500),(501,.code F501),(502,.code F502),(503,.code F503),(504,.code F504),(505,.code F505),(506,.code F506),(507,.code F507),(511,.code F511),(512,.code F512),(513,.code F513),(516,.code F516),(517,.code F517),(518,.code F518),(526,.codeR F526 0),(527,.codeR F527 0),(528,.codeR F528 0),(529,.code F529),(530,.codeR F530 0),(531,.codeR F531 0),(532,.codeR F532 0),(533,.code F533),(534,.code F534),(535,.code F535),(536,.code F536),(537,.codeR F537 0),(538,.codeR F538 0),(539,.codeR F539 0),(540,.codeR F540 0),(541,.codeR F541 0),(542,.codeR F542 0),(543,.codeR F543 0),(544,.code F544),(553,.code F553),(554,.code F554),(555,.code F555),(556,.code F556),(557,.code F557),(558,.code F558),(562,.code F562),(563,.code F563),(564,.code F564),(565,.codeR F565 0),(566,.code F566),(567,.codeR F567 0),(568,.codeR F568 0),(569,.codeR F569 0),(570,.code F570),(571,.code F571),(572,.code F572),(573,.code F573),(574,.code F574),(575,.code F575),(577,.code F577),(578,.code F578),(579,.code F579),(580,.code F580),(581,.code F581),(582,.code F582),(583,.code F583),(584,.code F584),(585,.code F585)]
def YdE:List (Nat×Fn):=[(587,.code F587),(588,.code F588),(589,.code F589),(590,.code F590),(591,.code F591),(592,.code F592),(593,.code F593),(594,.code F594),(595,.code F595),(596,.code F596),(597,.prim (some 0) (cloneQ 38)),(598,.prim (some 0) (cloneQ 18)),(599,.codeR F599 0),(600,.codeR F600 0),(601,.codeR F601 0),(603,.codeR F603 0),(604,.code F604),(605,.code F605),(606,.code F606),(607,.code F607),(608,.code F608),(609,.code F609),(610,.code F610),(611,.code F611),(612,.code F612),(613,.code F613),(614,.code F614),(615,.code F615),(616,.codeR F616 0),(617,.codeR F617 0),(618,.code F618),(619,.codeR F619 0),(620,.codeR F620 0),(622,.code F622),(623,.code F623),(624,.code F624),(625,.code F625),(626,.code F626),(627,.code F627),(628,.code F628),(629,.code F629),(630,.codeR F630 0),(632,.code F632),(633,.code F633),(634,.code F634),(635,.code F635),(636,.code F636),(637,.code F637),(638,.code F638),(641,.code F641),(642,.code F642),(720,.code F720),(721,.code F721),(722,.code F722),(723,.code F723),(724,.code F724),(725,.code F725),(726,.code F726),(727,.code F727),(728,.code F728),(729,.code F729),(730,.code F730),(731,.code F731),(732,.code F732)]
def Yei:List Nat:=[5,4,5,6,0,5,3,3,0,3,2,1,2,0,0,1,1,4,5,6,5,2,2,7,7,5,6,1,1,1,3,2,0,0,1,0,1,1,3,4,5,1,0,4,6,5,5,5,1,3,1,1,0,0,0,5,4,4,1,4,4,3,0,0,0,3,1,0,0,0,0,4,5,5,5,1,1,6,6,6,1,1,0,0,3,0,3,3,1,5,4,0,0,2,0,1,1,2,0,6,5,7,6,6,6,2,1,0,0,0,9,6,8,7,8,9,9,8,8,9,9,8,9,8,8,8,1,3,1,2,1,8,7,8,0,0,3,1,1,2,0,2,1,3,6,0,1,0,0,0,0,3,5,7,3,8,9,3,2,4,1,3,1,1,2,7,0,1,3,6,1,8,8,8,1,0,1,0,6,2,2,0,0,1,1,6,5,0,7,0,0,0,9,8,1,4,8,7,11,11,10,11,0,0,0,6,1,8,1,9,0,0,10,7,1,10,9,9,10,10,3,1,0,0,4,3,5,0,0,0,0,0,0,0,1,4,8,0,0,7,2,2,1,3,2,4,2,3,2,0,0,0,0,3,7,0,1,3,1,1,3,1,11,11,6,6,6,5,0,0,0,4,0,0,0,3,4,4,5,0,0,0,0,0,0,0,4,7,12,4,11,2,12,1,2,5,0,4,0,0,0,3,3,3,1,2,4,3,4,3,1,2,1,1,3,3]
def Yej:List Nat:=[2,17,14,1,16,15,10,1,13,1,0,0,0,0,0,0,9,7,1,5,2,6,12,0,1,8,8,7,0,0,1,0,0,7,5,4,0,7,7,6,7,0,7,2,1,1,5,1,6,1,0,13,14,1,12,12,13,14,14,1,9,12,10,12]
def rkO (n:Nat):Option Nat:=@Nat.rec (fun _=>Option Nat) none (fun k _=>some k) n
def mkFt (rest:List Ft):List (Nat×Fn)→List Nat→List Ft
 |[],_=>rest
 |a::l,[]=>⟨a.1,a.2,none⟩::mkFt rest l []
 |a::l,k::ks=>⟨a.1,a.2,rkO k⟩::mkFt rest l ks
noncomputable def Yeh:List Ft:=mkFt (⟨586,.prim none crcQ,none⟩::mkFt [] YdE Yej) YdD Yei
def YeV:Nat:=17
def isS:Option V→Bool
 |some _=>true
 |_=>false
def YcQ:Option V→Bool
 |some (.bool true)=>true
 |_=>false
theorem Ybs {rest:List Ft} {a:Ft}:∀{l:List (Nat×Fn)} {k:List Nat},a∈mkFt rest l k→a∈rest∨(a.f,a.x)∈l
 |[],_,h=>.inl h
 |b::l,[],h=>by
  rcases GM.1 h with h|h
  ·subst h;exact .inr (Gad ..)
  ·exact (Ybs h).imp id (G1 _)
 |b::l,k::ks,h=>by
  rcases GM.1 h with h|h
  ·subst h;exact .inr (Gad ..)
  ·exact (Ybs h).imp id (G1 _)
def H1588 (Pg:PgT):Prop:=∀x∈YdD,Pg x.1=some x.2
def H2588 (Pg:PgT):Prop:=∀x∈YdE,Pg x.1=some x.2
theorem YdL {Pg:PgT} (h1:H1588 Pg) (h2:H2588 Pg) (h3:H586 Pg):∀a∈Yeh,JfT Pg a.f a.x:=fun a ha=>by
 rcases Ybs ha with h|h
 ·rcases GM.1 h with h|h
  ·subst h;exact .inr ⟨none,crcQ,rfl,fun b r hr=>Ydl h3 b r hr⟩
  ·rcases Ybs h with h|h
   ·cases h
   ·exact .inl (h2 _ h)
 ·exact .inl (h1 _ h)
def fm0:List UInt8:=[58,1,0,0,1,1,1,3,1,2,1,2,1,1,2,2,3,1,1,2,3,1,1,2,0,3,0,0,0,0,0,0,0,0,0,0,0,0,0,0,0,0,0,0,0,0,0,0,0,0,0,0,0,0,0,0,0,0,0,111,43,87,97]
def Ycy:List V:=[iz 0,.str fm0,.str [],iz 0,.bool false,.bool false,iz 0,(.slice 9 []),(.slice 5 [[.str [],.str [],iz 1,iz 1,iz 1]]),(.slice 3 [[iz 1,(.slice 1 [[iz 1],[iz 2]]),.bool true],[iz 1,(.slice 1 [[iz 2],[iz 3]]),.bool true],[iz 1,(.slice 1 [[iz 3],[iz 1]]),.bool true]]),iz 2,(.slice 5 []),(.slice 3 [[iz 0,iz 0,iz 0],[iz 0,iz 0,iz 0],[iz 0,iz 0,iz 0]]),iz 0,iz 0,iz 0,iz 0,iz 0,iz 0,iz 0,iz 0,iz 0,iz 0,iz 0,.str [],(.slice 1 []),iz 0,iz 0,iz 0,.str [],.str [],(.slice 1 []),iz 0,iz 0,iz 0,(.slice 1 []),(.slice 7 []),.bool true]
def fm1:List UInt8:=[78,1,2,1,1,2,1,2,1,22,0,0,0,0,1,1,1,1,0,0,0,0,0,0,0,0,0,0,0,0,0,0,22,0,0,0,0,1,1,1,1,0,0,0,0,0,0,0,0,0,0,0,0,0,0,2,1,2,0,3,1,2,3,1,1,5,0,0,0,0,0,5,0,0,0,0,0,0,0,140,176,181,45]
def YcR:List V:=[iz 1,.str fm1,.str [],iz 0,.bool false,.bool false,iz 1,(.slice 9 [[iz 1,iz 1,iz 1,(.slice 1 [[iz 1],[iz 2]]),iz 1,.str [0,0,0,0,1,1,1,1,0,0,0,0,0,0,0,0,0,0,0,0,0,0],.str [0,0,0,0,1,1,1,1,0,0,0,0,0,0,0,0,0,0,0,0,0,0],(.slice 1 [[iz 1],[iz 2]]),(.slice 36 [])],[iz 3,iz 1,iz 1,(.slice 1 [[iz 3],[iz 1]]),iz 1,.str [0,0,0,0,0],.str [0,0,0,0,0],(.slice 1 []),(.slice 36 [])]]),(.slice 5 []),(.slice 3 []),iz 0,(.slice 5 []),(.slice 3 []),iz 0,iz 0,iz 0,iz 0,iz 0,iz 0,iz 0,iz 0,iz 0,iz 0,iz 0,.str [],(.slice 1 []),iz 0,iz 0,iz 0,.str [],.str [],(.slice 1 []),iz 0,iz 0,iz 0,(.slice 1 []),(.slice 7 []),.bool true]
def fm2:List UInt8:=[78,2,2,1,1,2,1,2,1,22,0,0,0,0,1,1,1,1,0,0,0,0,0,0,0,0,0,0,0,0,0,0,22,0,0,0,0,1,1,1,1,0,0,0,0,0,0,0,0,0,0,0,0,0,0,0,0,2,1,2,2,3,1,5,0,0,0,0,0,5,0,0,0,0,0,2,2,3,0,19,241,151,75]
def YcS:List V:=[iz 2,.str fm2,.str [],iz 0,.bool false,.bool false,iz 2,(.slice 9 [[iz 1,iz 2,iz 1,(.slice 1 [[iz 1],[iz 2]]),iz 1,.str [0,0,0,0,1,1,1,1,0,0,0,0,0,0,0,0,0,0,0,0,0,0],.str [0,0,0,0,1,1,1,1,0,0,0,0,0,0,0,0,0,0,0,0,0,0],(.slice 1 []),(.slice 36 [])],[iz 2,iz 2,iz 1,(.slice 1 [[iz 2],[iz 3]]),iz 1,.str [0,0,0,0,0],.str [0,0,0,0,0],(.slice 1 [[iz 2],[iz 3]]),(.slice 36 [])]]),(.slice 5 []),(.slice 3 []),iz 0,(.slice 5 []),(.slice 3 []),iz 0,iz 0,iz 0,iz 0,iz 0,iz 0,iz 0,iz 0,iz 0,iz 0,iz 0,.str [],(.slice 1 []),iz 0,iz 0,iz 0,.str [],.str [],(.slice 1 []),iz 0,iz 0,iz 0,(.slice 1 []),(.slice 7 []),.bool true]
def fm3:List UInt8:=[44,3,2,2,1,2,2,3,1,5,0,0,0,0,0,5,0,0,0,0,0,0,0,3,1,2,3,1,1,5,0,0,0,0,0,5,0,0,0,0,0,2,3,1,0,66,191,217,70]
def YcT:List V:=[iz 3,.str fm3,.str [],iz 0,.bool false,.bool false,iz 3,(.slice 9 [[iz 2,iz 3,iz 1,(.slice 1 [[iz 2],[iz 3]]),iz 1,.str [0,0,0,0,0],.str [0,0,0,0,0],(.slice 1 []),(.slice 36 [])],[iz 3,iz 3,iz 1,(.slice 1 [[iz 3],[iz 1]]),iz 1,.str [0,0,0,0,0],.str [0,0,0,0,0],(.slice 1 [[iz 3],[iz 1]]),(.slice 36 [])]]),(.slice 5 []),(.slice 3 []),iz 0,(.slice 5 []),(.slice 3 []),iz 0,iz 0,iz 0,iz 0,iz 0,iz 0,iz 0,iz 0,iz 0,iz 0,iz 0,.str [],(.slice 1 []),iz 0,iz 0,iz 0,.str [],.str [],(.slice 1 []),iz 0,iz 0,iz 0,(.slice 1 []),(.slice 7 []),.bool true]
def cl (w:Int):List V:=[iz w,iz 1,.slice 5 [],.slice 1 [],iz 0,iz 0,iz 0,.str [],.str [],.bool false,.str [],iz 0,iz 0,iz 0,.str [],iz 0,.bool false,iz 0]
def YaB:List (List V):=[Ycy,YcR,YcS,YcT]
def Yav:List (List V):=[cl 1,cl 2,cl 3,cl 4,cl 5,cl 6,cl 7,cl 8]
def wls:List (List V):=[[iz 0],[iz 0],[iz 0],[iz 0]]
def Ybv:List V:=[.slice 38 YaB,.slice 18 Yav,.slice 1 wls,.slice 1 []]
def eRun (n c w t:List (List V)):List V:=[.tuple [.slice 38 n],.tuple [.slice 18 c],.tuple [.slice 1 w],.tuple [.slice 1 t],.tuple [.slice 25 []]]
def Ycr:V:=.tuple (.lref 0 0::eRun YaB Yav wls [])
def Ybq (b:Bool):Option V→Bool
 |some (.tuple [r,.tuple [.tuple [.slice 38 _],.tuple [.slice 18 _],.tuple [.slice 1 _],.tuple [.slice 1 _],.tuple [.slice 25 []]]])=>match r with
  |.tuple []=>!b
  |.int .i64 _=>b
  |_=>false
 |_=>false
noncomputable def cru (f:Nat) (a:List V):Option V:=Jmf Yeh 12 3000 60 YeV f a
def Yfd (n:Nat) (f:V→Bool):Option V→Bool
 |some (.agg l)=>Nat.beq l.length n&&l.all f
 |_=>false
def Yex:Option V→Bool
 |some (.str _)=>true
 |_=>false
def isZ (n:Int):Option V→Bool
 |some (.int .i64 m)=>decide (m=n)
 |_=>false
def Ydu (f:List UInt8):Option V→Bool
 |some (.tuple [.agg [.str a,.str [],.int .i64 0,.bool false,.bool false],.slice 1 [[.str l]],.int .i64 0])=>decide (a=f)&&decide (l=(f.drop 1).take (f.length-5))
 |_=>false
def body (f:List UInt8):List UInt8:=(f.drop 1).take (f.length-5)
def Yd0 (n:List V):List V:=(n.drop 6).take 2
theorem YcC {l:List UInt8} (h:l≠[]):(dN l).2≤l.length:=by
 rcases Ybm h with x|⟨a0,t,rfl,q,x⟩|⟨a0,a1,t,rfl,q,q1,x⟩|⟨a0,a1,a2,t,rfl,q,q1,q2,q3,x⟩|⟨a0,a1,a2,a3,t,rfl,q,q1,q2,q3,q4,x⟩
 ·rw[x];have:=List.length_pos_iff.2 h;simp only;omega
 all_goals rw[x];simp
def H192 (Pg:PgT):Prop:=Pg 192=some (.code F192)∧H190 Pg
theorem K192 (h:H192 Pg) (a b:List UInt8):K' Pg 192 [.str a,.str b]=some (iz (Yn (Yk a) (Yk b))):=by
 obtain⟨h,h190⟩:=h;refine JdB h rfl ?_;simp only[go_sem];unfold l192_0;refine Jms (fun (p:List UInt8×List UInt8) S=>S.ρ 0=.str p.1∧S.ρ 1=.str p.2∧Yn (Yk p.1) (Yk p.2)=Yn (Yk a) (Yk b)) (fun p=>p.1.length) (a,b) ?_ ?_
 ·simp[go_sem]
 ·intro⟨x,y⟩ S ⟨h0,h1,ho⟩;simp only at h0 h1 ho;have k:=K190 h190 x;have k':=K190 h190 y;simp only[go_sem,h0];by_cases hx:x=[]
  ·subst hx;rw[Yat] at ho;by_cases hy:y=[]
   ·subst hy;have ho:(0:Int)=Yn (Yk a) (Yk b):=ho;simp only[go_sem,h0,h1,←ho]
   ·rw[YM hy] at ho;have ho:(-1:Int)=Yn (Yk a) (Yk b):=ho;simp only[go_sem,h0,h1,hy,←ho]
  ·by_cases hy:y=[]
   ·subst hy;rw[YM hx,Yat] at ho;have ho:(1:Int)=Yn (Yk a) (Yk b):=ho;simp only[go_sem,h0,h1,hx,←ho]
   ·rw[YM hx,YM hy] at ho;have ex:JeM x=dN x:=by rw[JeM,GA hx]
    have ey:JeM y=dN y:=by rw[JeM,GA hy]
    rw[ex] at k;rw[ey] at k';have lx:=YcC hx;have ly:=YcC hy;have hd:=YaH hx;simp only[go_sem,h0,h1,hx,hy,k,k'];refine Jmt (fun c=>?_) (fun c=>?_)
    ·rw[YaW (Gp c)] at ho;simp only[go_sem,←ho]
    ·have c:=Gk c;simp only[go_sem];refine Jmt (fun d=>?_) (fun d=>?_)
     ·rw[Ybd (Gp d)] at ho;simp only[go_sem,←ho]
     ·have d:=Gk d;have e:((dN x).1:Int)=((dN y).1:Int):=by omega
      rw[e,Ybc] at ho;simp only[go_sem,h0,h1,lx,ly];exact⟨(x.drop (dN x).2,y.drop (dN y).2),hd,rfl,rfl,ho⟩
structure Span where
 lo:List UInt8
 hi:List UInt8
 deriving DecidableEq
@[go_sem] def Yw (s:Span):List V:=[.str s.lo,.str s.hi]
def ltS (a b:List UInt8):Bool:=decide (Yn (Yk a) (Yk b)<0)
def leS (a b:List UInt8):Bool:=decide (Yn (Yk a) (Yk b)≤0)
def Yp (s:Span):Bool:=(decide (s.lo=[])||keyR s.lo)&&(decide (s.hi=[])||(keyR s.hi&&ltS s.lo s.hi))
def H186 (Pg:PgT):Prop:=Pg 186=some (.code F186)∧H170 Pg∧H192 Pg
theorem K186 (h:H186 Pg) (s:Span):K' Pg 186 [.agg (Yw s)]=some (.bool (Yp s)):=by
 obtain⟨h,h170,h192⟩:=h;have k1:=K170 h170 s.lo;have k2:=K170 h170 s.hi;have k3:=K192 h192 s.lo s.hi;refine JdB h rfl ?_;cases c1:decide (s.lo=[])<;>cases c2:keyR s.lo<;>cases c3:decide (s.hi=[])<;>cases c4:keyR s.hi <;>
  simp only[go_sem,c1,c2,c3,c4,k1,k2,k3,Yp,ltS]
def Yaa (s:Span) (k:List UInt8):Bool:=Yp s&&(keyR k&&(leS s.lo k&&(decide (s.hi=[])||ltS k s.hi)))
def H171 (Pg:PgT):Prop:=Pg 171=some (.code F171)∧H186 Pg∧H170 Pg∧H192 Pg
theorem K171 (h:H171 Pg) (s:Span) (k:List UInt8):K' Pg 171 [.agg (Yw s),.str k]=some (.bool (Yaa s k)):=by
 obtain⟨h,h186,h170,h192⟩:=h;have k1:=K186 h186 s;have k2:=K170 h170 k;have k3:=K192 h192 s.lo k;have k4:=K192 h192 k s.hi;simp only[Yw] at k1;refine JdB h rfl ?_;cases c1:Yp s<;>cases c2:keyR k<;>cases c3:decide (Yn (Yk s.lo) (Yk k)≤0)<;>cases c4:decide (s.hi=[]) <;>
  simp only[go_sem,c1,c2,c3,c4,k1,k2,k3,k4,Yaa,leS,ltS]
def YZ:Span:=⟨[],[]⟩
@[go_sem] def Ydr (x:Span×Span×Int):V:=.tuple [.agg (Yw x.1),.agg (Yw x.2.1),iz x.2.2]
def Y8 (s:Span) (k:List UInt8):Span×Span×Int:=
 if Yp s&&keyR k then (if decide (k=s.lo)||!Yaa s k then (YZ,YZ,9) else (⟨s.lo,k⟩,⟨k,s.hi⟩,0)) else (YZ,YZ,1)
def H178 (Pg:PgT):Prop:=Pg 178=some (.code F178)∧H186 Pg∧H170 Pg∧H171 Pg
theorem K178 (h:H178 Pg) (s:Span) (k:List UInt8):K' Pg 178 [.agg (Yw s),.str k]=some (Ydr (Y8 s k)):=by
 obtain⟨h,h186,h170,h171⟩:=h;have k1:=K186 h186 s;have k2:=K170 h170 k;have k3:=K171 h171 s k;simp only[Yw] at k1 k3;refine JdB h rfl ?_;cases c1:Yp s<;>cases c2:keyR k<;>cases c3:decide (k=s.lo)<;>cases c4:Yaa s k <;>
  simp only[go_sem,c1,c2,c3,c4,k1,k2,k3,Y8,YZ]
structure Stamp where
 wall:Int
 tick:Int
 node:Int
 deriving DecidableEq
structure Ver where
 at_:Stamp
 gone:Bool
 val:List UInt8
 deriving DecidableEq
@[go_sem] def Yg (s:Stamp):List V:=[iz s.wall,iz s.tick,iz s.node]
@[go_sem] def YF (v:Ver):List V:=[iz v.at_.wall,iz v.at_.tick,iz v.at_.node,.bool v.gone,.str v.val]
def Yb (c:List Ver):V:=.slice 5 (c.map YF)
def Ybg (a b:Int):Bool:=decide (0≤a)&&decide (a≤b)
def YbM (a b:Int):Int:=if a<b then -1 else if b<a then 1 else 0
def orI:List Int→Int
 |[]=>0
 |a::l=>if a=0 then orI l else a
def Ya (s:Stamp):Bool:=Ybg s.wall 1099511627776&&Ybg s.tick 1048576&&Ybg s.node 255
def Yd (a b:Stamp):Int:=orI [YbM a.wall b.wall,YbM a.tick b.tick,YbM a.node b.node]
def H32 (Pg:PgT):Prop:=Pg 32=some (.code F32)
theorem K32 (h:H32 Pg) (a b:Int):K' Pg 32 [iz a,iz b]=some (.bool (Ybg a b)):=by
 refine JdB h rfl ?_;simp only[go_sem];refine Jmr (fun h=>?_) (fun h=>?_)<;>simp only[go_sem,h,Ybg]
def H28 (Pg:PgT):Prop:=Pg 28=some (.code F28)∧H32 Pg
theorem K28 (h:H28 Pg) (a:Stamp):K' Pg 28 [.agg (Yg a)]=some (.bool (Ya a)):=by
 obtain⟨h,h32⟩:=h;refine JdB h rfl ?_;have k:=fun x y=>K32 h32 x y;simp only[go_sem,k]
 repeat' (refine Jmr (fun h=>?_) (fun h=>?_)<;>simp only[go_sem,h,k,Ya])
def before (a b:Stamp):Bool:=decide (Yd a b<0)
def later (a b:Stamp):Stamp:=if Yd a b<0 then b else a
structure Entr where
 key:List UInt8
 chain:List Ver
 deriving DecidableEq
@[go_sem] def YE (e:Entr):List V:=[.str e.key,Yb e.chain]
def Sm (l:List Entr):Prop:=l.length≤10000∧∀e∈l,e.chain.length≤10000∧e.key.length≤10000
theorem Sm.len {l:List Entr} (h:Sm l):l.length≤10000:=h.1
theorem Sm.at {l:List Entr} (h:Sm l) {i:Nat} {e:Entr} (he:l[i]?=some e):e.chain.length≤10000∧e.key.length≤10000:=h.2 e (List.mem_of_getElem? he)
theorem gtd {a b:Nat}:decide ((a:Int)<(b:Int))=!decide (b≤a):=by
 by_cases h:b≤a<;>simp[h]<;>omega
def Ydx (z n:Nat):Option (Nat×List (List V)×Fz)→Option V
 |some (z',rows,.live)=>if z'=z∧rows.length=n then some (.slice z rows) else none
 |_=>none
@[go_sem] theorem Ye9 {z n:Nat} {rows:List (List V)}:Ydx z n (some (z,rows,.live))=if rows.length=n then some (.slice z rows) else none:=by simp[Ydx]
@[go_sem] theorem Yfc {A:Nat→Option (Nat×List (List V)×Fz)} {s z n:Nat}:Jcy A (some 0) 0 (.own s z n)=Ydx z n (A s):=by
 unfold Jcy Ydx;rw[GC rfl]
 rfl
theorem Sm.drop {l:List Entr} (h:Sm l) {n:Nat}:Sm (l.drop n):=⟨by have:=h.1;simp;omega,fun e he=>h.2 e (G7 he)⟩
structure Ans where
 err:Int
 at_:Stamp
 found:Bool
 val:List UInt8
 items:List (List UInt8×List UInt8)
 next:List UInt8
 more:Bool
 deriving DecidableEq
structure Done where
 client:Int
 req:Int
 ans:Ans
 deriving DecidableEq
@[go_sem] def YcZ (p:List UInt8×List UInt8):List V:=[.str p.1,.str p.2]
@[go_sem] def YI (l:List (List UInt8×List UInt8)):V:=.slice 2 (l.map YcZ)
@[go_sem] def YbP (a:Ans):List V:=[iz a.err,iz a.at_.wall,iz a.at_.tick,iz a.at_.node,.bool a.found,.str a.val,YI a.items,.str a.next,.bool a.more]
@[go_sem] def Yy (d:Done):List V:=[iz d.client,iz d.req,iz d.ans.err,iz d.ans.at_.wall,iz d.ans.at_.tick,iz d.ans.at_.node,.bool d.ans.found,.str d.ans.val,YI d.ans.items,.str d.ans.next,.bool d.ans.more]
def Yz (n:Int):Bool:=decide (1≤n)&&decide (n≤1099511627776)
@[go_sem] def Ybk (l:List Span):V:=.slice 2 (l.map Yw)
def wg:Bool→List UInt8→List Span→Bool
 |_,last,[]=>decide (last=[])
 |f,last,x::l=>Yp x&&(decide (x.lo=last)&&((f||!decide (last=[]))&&wg false x.hi l))
def Yao (l:List Span):Bool:=!decide (l=[])&&wg true [] l
theorem Y0 {α:Type} [DecidableEq α] {l:List α}:decide ((0:Int)<(l.length:Int))=!decide (l=[]):=by cases l<;>simp
def H166 (Pg:PgT):Prop:=Pg 166=some (.code F166)∧H186 Pg
theorem K166 (h:H166 Pg) (l:List Span) (hl:l.length<2 ^ 60):K' Pg 166 [Ybk l]=some (.bool (Yao l)):=by
 obtain⟨h,h186⟩:=h;have k:=fun x=>K186 h186 x;simp only[Yw] at k;refine JdB h rfl ?_;simp only[go_sem];unfold l166_0;refine Jms (fun (i:Nat) S=>i≤l.length∧S.ρ 0=Ybk l∧S.μ 5=none∧S.ρ 6=Ybk l∧S.ρ 7=iz l.length∧S.ρ 8=iz i∧∃last,S.ρ 3=.str last∧wg (decide (i=0)) last (l.drop i)=wg true [] l) (fun i=>l.length-i) 0 ?_ ?_
 ·simp[go_sem]
 ·intro i S ⟨hi,h0,m5,h6,h7,h8,last,h3,ho⟩;simp only[go_sem,h7,h8];refine Jmt (fun h=>?_) (fun h=>?_)
  ·have h:=Yi h;obtain⟨x,hx,hd⟩:=Jl8 h;rw[hd] at ho;simp only[wg] at ho;simp only[go_sem,m5,h6,h8,hx,k];cases c1:Yp x with
   |false=>rw[c1,GK] at ho;simp only[go_sem,Yao,←ho]
   |true=>
   cases c2:decide (x.lo=last) with
   |false=>rw[c1,c2] at ho;simp only[GK,G9] at ho;simp only[go_sem,c2,Yao,←ho,h3]
   |true=>
   rw[c1,c2] at ho;simp only[GW] at ho;cases c3:decide (i=0) with
   |true=>
    rw[c3] at ho;simp only[Bool.true_or,GW] at ho;simp only[go_sem,c2,c3,h0,h3,h6,h7,h8,YcA];exact⟨i+1,by omega,by omega,by rw[Yj h hl],_,rfl,ho⟩
   |false=>
    rw[c3] at ho;simp only[Bool.false_or] at ho;cases c4:decide (last=[]) with
    |true=>rw[c4] at ho;simp only[Gam,GK] at ho;simp only[go_sem,c2,c3,c4,Yao,←ho,h3,YcA]
    |false=>
     rw[c4] at ho;simp only[G5,GW] at ho;simp only[go_sem,c2,c3,c4,h0,h3,h6,h7,h8,YcA];exact⟨i+1,by omega,by omega,by rw[Yj h hl],_,rfl,ho⟩
  ·have h:=Yo hi h;subst h;rw[Gag] at ho;simp only[wg] at ho;simp only[go_sem,h0,Y0,Yao,←ho];cases c:decide (l=[])<;>simp only[go_sem,h3]
structure Shd where
 id:Int
 epoch:Int
 span:Span
 phase:Int
 ents:List Entr
 mark:Stamp
 top:Stamp
 done:List Done
 hold:Int
 seen:Int
 move:Int
 closed:Int
structure Rq where
 client:Int
 req:Int
 kind:Int
 key:List UInt8
 value:List UInt8
 had:Bool
 old:List UInt8
 at_:Stamp
 hi:List UInt8
 limit:Int
@[go_sem] def eRq (r:Rq):List V:=[iz r.client,iz r.req,iz r.kind,.str r.key,.str r.value,.bool r.had,.str r.old,iz r.at_.wall,iz r.at_.tick,iz r.at_.node,.str r.hi,iz r.limit]
def rqR (r:Rq):Bool:=Yz r.client&&(Yz r.req&&(decide (1≤r.kind)&&(decide (r.kind≤6)&&(decide (r.value.length≤16)&&(decide (r.old.length≤16)&&(decide (0≤r.limit)&&(decide (r.limit≤8)&&(Ya r.at_&&((decide (r.hi=[])||keyR r.hi) &&
 (if r.kind=6 then (decide (r.key=[])||keyR r.key)&&decide (1≤r.limit) else keyR r.key))))))))))
theorem Ybb {n:Int}:decide (n<1)=!decide (1≤n):=by by_cases h:1≤n<;>simp[h]<;>omega
def rgB (m n:Int):Bool:=!(decide (n<m)||decide (1099511627776<n))
theorem rg1 (n:Int):rgB 1 n=Yz n:=by
 simp only[rgB,Yz];by_cases h:1≤n<;>by_cases h2:n≤1099511627776<;>simp[h,h2]<;>omega
def H313 (Pg:PgT):Prop:=Pg 313=some (.code F313)
theorem K313 (h:H313 Pg) (n m:Int):K' Pg 313 [iz n,.cptr [iz m] 0]=some (.bool (decide (n<m)||decide (1099511627776<n))):=by
 refine JdB h rfl ?_;cases c:decide (n<m)<;>simp only[go_sem,c,Bool.true_or,Bool.false_or]
def H284 (Pg:PgT):Prop:=Pg 284=some (.code F284)∧H67 Pg∧H313 Pg
theorem K284 (h:H284 Pg) (m:Int) (l:List Int) (hl:l.length<2 ^ 60):K' Pg 284 [iz m,Yh l]=some (.bool (!(l.any fun n=>decide (n<m)||decide (1099511627776<n)))):=by
 obtain⟨h,h67,h313⟩:=h;have k:=K67 h67 l 313 [.cptr [iz m] 0] (fun n=>decide (n<m)||decide (1099511627776<n)) hl rfl (fun n _=>K313 h313 n m);simp only[Yh] at k;refine JdB h rfl ?_;simp only[go_sem,Yh,k]
theorem K284b (h:H284 Pg) (m a b:Int):K' Pg 284 [iz m,.slice 1 [[iz a],[iz b]]]=some (.bool (rgB m a&&rgB m b)):=by
 have:=K284 h m [a,b] (by simp);simpa [Yh,rgB,Bool.and_assoc] using this
theorem YbI {n:Nat}:decide ((16:Int)<(n:Int))=!decide (n≤16):=gtd (a:=16)
theorem Ycc {n:Int}:decide (6<n)=!decide (n≤6):=by by_cases h:n≤6<;>simp[h]<;>omega
theorem Ycd {n:Int}:decide (8<n)=!decide (n≤8):=by by_cases h:n≤8<;>simp[h]<;>omega
theorem Yb1 {n:Int}:decide (n<0)=!decide (0≤n):=by by_cases h:0≤n<;>simp[h]<;>omega
def H285 (Pg:PgT):Prop:=Pg 285=some (.code F285)∧H28 Pg∧H170 Pg∧H284 Pg
theorem K285 (h:H285 Pg) (r:Rq):K' Pg 285 [.agg (eRq r)]=some (.bool (rqR r)):=by
 obtain⟨h,h28,h170,h284⟩:=h;have a1:=K284b h284 1 r.client r.req;have k28:=K28 h28 r.at_;have kh:=K170 h170 r.hi;have kk:=K170 h170 r.key;simp only[rg1] at a1;simp only[Yg] at k28;clear h28 h170 h284;refine JdB h rfl ?_;clear h;cases c1:Yz r.client with
 |false=>simp only[go_sem,rqR, *]
 |true=>
 cases c2:Yz r.req with
 |false=>simp only[go_sem,rqR, *]
 |true=>
 cases c3:decide (1≤r.kind) with
 |false=>simp only[go_sem,rqR,Ybb, *]
 |true=>
 cases c4:decide (r.kind≤6) with
 |false=>simp only[go_sem,rqR,Ybb,Ycc, *]
 |true=>
 cases c5:decide (r.value.length≤16) with
 |false=>simp only[go_sem,rqR,Ybb,Ycc,YbI, *]
 |true=>
 cases c6:decide (r.old.length≤16) with
 |false=>simp only[go_sem,rqR,Ybb,Ycc,YbI, *]
 |true=>
 cases c7:decide (0≤r.limit) with
 |false=>simp only[go_sem,rqR,Ybb,Ycc,YbI,Yb1, *]
 |true=>
 cases c8:decide (r.limit≤8) with
 |false=>simp only[go_sem,rqR,Ybb,Ycc,YbI,Yb1,Ycd, *]
 |true=>
 cases c9:Ya r.at_ with
 |false=>simp only[go_sem,rqR,Ybb,Ycc,YbI,Yb1,Ycd, *]
 |true=>
 cases q1:decide (r.hi=[]) with
 |true=>
  cases q3:decide (r.kind=6) with
  |true=>
   have q3':=Gp q3;cases q4:decide (r.key=[]) with
   |true=>simp only[go_sem,rqR,YbI,Yb1,Ycd, *]
   |false=>cases q5:keyR r.key<;>simp only[go_sem,rqR,YbI,Yb1,Ycd, *]
  |false=>
   have q3':=Gk q3;simp only[go_sem,rqR,Ybb,Ycc,YbI,Yb1,Ycd, *]
 |false=>
  cases c10:keyR r.hi with
  |false=>simp only[go_sem,rqR,Ybb,Ycc,YbI,Yb1,Ycd, *]
  |true=>
  cases q3:decide (r.kind=6) with
  |true=>
   have q3':=Gp q3;cases q4:decide (r.key=[]) with
   |true=>simp only[go_sem,rqR,YbI,Yb1,Ycd, *]
   |false=>cases q5:keyR r.key<;>simp only[go_sem,rqR,YbI,Yb1,Ycd, *]
  |false=>
   have q3':=Gk q3;simp only[go_sem,rqR,Ybb,Ycc,YbI,Yb1,Ycd, *]
@[go_sem] def eCl (w n:Int) (r:Rq) (o:Bool) (t:Int):List V:=[iz w,iz n,.slice 5 [],.slice 1 [],iz r.client,iz r.req,iz r.kind,.str r.key,.str r.value,.bool r.had,.str r.old,iz r.at_.wall,iz r.at_.tick,iz r.at_.node,.str r.hi,iz r.limit,.bool o,iz t]
def Ybz:Rq:=⟨0,0,0,[],[],false,[],⟨0,0,0⟩,[],0⟩
theorem YeU (w:Int):cl w=eCl w 1 Ybz false 0:=rfl
def H628 (Pg:PgT):Prop:=Pg 628=some (.code F628)∧H186 Pg∧H285 Pg
theorem K628 (h:H628 Pg) (w:Int) (h1:1≤w) (h2:w≤8) (r:Rq) (o:Bool):∃b,K' Pg 628 [.agg (eCl w 2 {r with client:=w,req:=1} o 12)]=some (.bool b):=by
 obtain⟨h,h186,h285⟩:=h;have k1:=K186 h186 ⟨r.key,r.hi⟩;have k2:=K285 h285 {r with client:=w,req:=1};simp only[Yw,eRq] at k1 k2;have c1:decide (w<1)=false:=Ge (by omega);have c2:decide ((8:Int)<w)=false:=Ge (by omega);have c3:decide (w=w)=true:=Gj rfl;have w1:IntKind.i64.wrap (0+0)=0:=rfl;have d1:decide ((2:Int)<1)=false:=rfl;have d2:decide ((1099511627776:Int)<2)=false:=rfl;have d3:decide ((12:Int)<0)=false:=rfl;have d4:decide ((12:Int)<12)=false:=rfl;have d5:decide ((0:Int)<0)=false:=rfl;have d6:decide ((1:Int)=0)=false:=rfl;have d7:decide ((1:Int)<1)=false:=rfl;have d8:decide ((2:Int)≤1)=false:=rfl;have key:∃r',K' Pg 628 [.agg (eCl w 2 {r with client:=w,req:=1} o 12)]=some r'∧∃b,r'=.bool b:=by
  refine K'_codeX h rfl ?_;cases o with
  |true=>
   cases c4:decide (r.kind=0)<;>simp only[F628,c628,go_sem,k1,k2,c1,c2,c3,c4,w1,d1,d2,d3,d4,d5,d6,d7,d8]<;>exact⟨_,rfl,_,rfl⟩
  |false=>
   simp only[F628,c628,go_sem,k1,k2,c1,c2,c3,w1,d1,d2,d3,d4,d5,d6,d7,d8];exact⟨_,rfl,_,rfl⟩
 obtain⟨_,e,b,rfl⟩:=key;exact⟨b,e⟩
def H627 (Pg:PgT):Prop:=Pg 627=some (.code F627)∧H628 Pg
theorem K627 (h:H627 Pg) (w:Int) (h1:1≤w) (h2:w≤8) (r:Rq) (o:Bool):∃r',K' Pg 627 [.agg (cl w),.agg (eRq r),.bool o]=some r'∧∃w' n q o' t e,r'=.tuple [.agg (eCl w' n q o' t),iz e]:=by
 obtain⟨h,h628⟩:=h;obtain⟨b,k⟩:=K628 h628 w h1 h2 r o;simp only[eCl] at k;have w1:IntKind.i64.wrap (1+1)=2:=rfl;refine K'_codeX h rfl ?_;cases b<;>simp only[F627,c627,YeU,Ybz,go_sem,k,w1]
 ·exact⟨_,rfl,_,_,Ybz,_,_,_,rfl⟩
 ·exact⟨_,rfl,_,_,{r with client:=w,req:=1},_,_,_,rfl⟩
def H613 (Pg:PgT):Prop:=Pg 613=some (.code F613)∧H627 Pg
theorem K613 (h:H613 Pg) (w:Int) (h1:1≤w) (h2:w≤8) (hf:K' Pg 626 [.agg (cl w)]=some (iz 0)) (r:Rq):∃r',K' Pg 613 [.agg (cl w),.agg (eRq r)]=some r'∧∃w' n q o' t e,r'=.tuple [.agg (eCl w' n q o' t),iz e]:=by
 obtain⟨h,h627⟩:=h;obtain⟨_,k,w',n,q,o',t,e,rfl⟩:=K627 h627 w h1 h2 r false;simp only[cl,eRq,eCl] at k hf;have c0:decide ((0:Int)=0)=true:=rfl;refine K'_codeX h rfl ?_;simp only[F613,c613,cl,go_sem,hf,k,c0];exact⟨_,rfl,_,_,q,_,_,_,rfl⟩
def H614 (Pg:PgT):Prop:=Pg 614=some (.code F614)∧H627 Pg
theorem K614 (h:H614 Pg) (w:Int) (h1:1≤w) (h2:w≤8) (hf:K' Pg 626 [.agg (cl w)]=some (iz 0)) (a b:List UInt8):∃r',K' Pg 614 [.agg (cl w),.str a,.str b]=some r'∧∃w' n q o' t e,r'=.tuple [.agg (eCl w' n q o' t),iz e]:=by
 obtain⟨h,h627⟩:=h;obtain⟨_,k,w',n,q,o',t,e,rfl⟩:=K627 h627 w h1 h2 {Ybz with key:=a,hi:=b} true;simp only[cl,eRq,eCl,Ybz] at k hf;have c0:decide ((0:Int)=0)=true:=rfl;refine K'_codeX h rfl ?_;simp only[F614,c614,cl,go_sem,hf,k,c0];exact⟨_,rfl,_,_,q,_,_,_,rfl⟩
def stB (s:Stamp):List UInt8:=putB s.wall.toNat++(putB s.tick.toNat++putB s.node.toNat)
theorem stR {s:Stamp}:Ya s=true↔(0≤s.wall∧s.wall≤1099511627776)∧(0≤s.tick∧s.tick≤1048576)∧(0≤s.node∧s.node≤255):=by
 simp only[Ya,Ybg,Gi,Gx];constructor
 ·rintro⟨⟨h1,h2⟩,h3⟩;exact⟨h1,h2,h3⟩
 ·rintro⟨h1,h2,h3⟩;exact⟨⟨h1,h2⟩,h3⟩
def Yc (l:List Int):List UInt8:=l.flatMap fun n=>putB n.toNat
theorem Ycf {l:List Int} {n:Int}:Yc (l++[n])=Yc l++putB n.toNat:=by simp[Yc]
theorem Yah:∀{l:List Int},(∀n∈l,n.toNat<2 ^ 63)→(Yc l).length≤9*l.length
 |[],_=>by simp[Yc]
 |a::l,h=>by
  have h1:=YC.2 (h a (by simp));have h2:=Yah (l:=l) fun n hn=>h n (by simp[hn]);simp only[Yc,Gu,Gc,List.length_cons] at h2 ⊢;omega
def H483 (Pg:PgT):Prop:=Pg 483=some (.code F483)∧H456 Pg
theorem K483 (h:H483 Pg) (l:List Int) (hl:∀n∈l,0≤n∧n<2 ^ 63) (hl2:l.length≤10000):K' Pg 483 [Yh l]=some (.tuple [.str (Yc l),iz 0]):=by
 obtain⟨h,h456⟩:=h;refine JdB h rfl ?_;simp only[F483,c483,go_sem];unfold l483_0;refine Jms (fun (i:Nat) S=>i≤l.length∧S.ρ 9=Yh l∧S.ρ 10=iz l.length∧S.ρ 11=iz i∧S.ρ 4=.own 4 1 (Yc (l.take i)).length∧S.A 4=some (1,(Yc (l.take i)).map rowB,.live)) (fun i=>l.length-i) 0 ?_ ?_
 ·exact⟨Gae _,rfl,by simp only[go_sem],rfl,rfl,rfl⟩
 ·intro i S ⟨hi,s9,s10,s11,s4,a4⟩;cases c1:decide ((i:Int)<(l.length:Int)) with
  |false=>
   have:i=l.length:=by have:=Gk c1;omega
   subst this;rw[GP] at s4 a4;simp only[go_sem,s10,s11,s4,a4,c1,Ycu,Gl]
  |true=>
   have hlt:=Yi c1;obtain⟨n,hn,-⟩:=Jl8 hlt;have hinc:=inc64q (i:=i) (by omega)
   obtain⟨n0,n1⟩:=hl n (List.mem_of_getElem? hn);have k:K' Pg 456 [iz n]=some (.tuple [.str (putB n.toNat),iz 0]):=by
    have:=K456 h456 n.toNat (by omega);rw[show ((n.toNat:Nat):Int)=n by omega] at this;exact this
   have htk:l.take (i+1)=l.take i++[n]:=by rw[GT,hn];rfl
   have hb:=Yah (l:=l.take i) fun m hm=>by have:=hl m (List.mem_of_mem_take hm);omega
   rw[Gy] at hb;have hp:=YC.2 (show n.toNat<2 ^ 63 by omega);have hlim:(Yc (l.take i)).length+(putB n.toNat).length≤lim:=by unfold lim;omega
   simp only[go_sem,s9,s10,s11,s4,a4,c1,hn,k,hinc,Gl,hlim];refine⟨i+1,by omega,by omega,rfl,by rw[htk,Ycf,Gc],by rw[htk,Ycf,Gab];rfl⟩
def H455 (Pg:PgT):Prop:=Pg 455=some (.code F455)∧H483 Pg∧H28 Pg
theorem K455 (h:H455 Pg) (s:Stamp) (hs:Ya s=true):K' Pg 455 [.agg (Yg s)]=some (.tuple [.str (stB s),iz 0]):=by
 obtain⟨h,h483,h28⟩:=h;have k28:=K28 h28 s;rw[hs] at k28;obtain⟨h1,h2,h3⟩:=stR.1 hs;have k:=K483 h483 [s.wall,s.tick,s.node] (fun n hn=>by simp at hn;rcases hn with rfl|rfl|rfl<;>omega) (by simp);have e:Yc [s.wall,s.tick,s.node]=stB s:=by simp[Yc,stB]
 rw[e] at k;simp only[go_sem,Gq,Gt] at k k28;refine JdB h rfl ?_;simp only[F455,c455,go_sem,k28,k]
structure Rep where
 id:Int
 view:Int
 members:List Int
 n:Int
 base:List UInt8
 text:List UInt8
 acks:List Int
 deriving DecidableEq
structure Word where
 kind:Int
 frm:Int
 to:Int
 view:Int
 n:Int
 members:List Int
 text:List UInt8
 deriving DecidableEq
@[go_sem] def YA (r:Rep):List V:=[iz r.id,iz r.view,Yh r.members,iz r.n,.str r.base,.str r.text,Yh r.acks]
@[go_sem] def Yaj (r:Word):List V:=[iz r.kind,iz r.frm,iz r.to,iz r.view,iz r.n,Yh r.members,.str r.text]
def Yl (r:Rep):Bool:=match r.members with|[]=>false|m::_=>decide (m=r.id)
def Yas (r:Rep):Bool:=r.members.all fun m=>decide (m∈r.acks)
def H69 (Pg:PgT):Prop:=Pg 69=some (.prim (some 0) (cloneQ 1))
theorem K69 (h:H69 Pg) (l:List Int) (hl:l.length≤1000000000):K' Pg 69 [Yh l]=some (Yh l):=by
 rw[JfU h];simp[cloneQ,Yh,lim];omega
structure RP (r:Rep):Prop where
 id:1≤r.id∧r.id≤255
 view:0≤r.view∧r.view≤1099511627776
 n:0≤r.n∧r.n≤1099511627776
 sm:SetP r.members
 sa:SetP r.acks
 sub:∀a∈r.acks,a∈r.members
 inn:r.members≠[]→r.id∈r.members
 lead:Yl r=true→r.id∈r.acks∧(Yas r=true→r.base=r.text)
 not:Yl r=false→r.acks=[]∧r.base=r.text
def YS (k:Nat):Int:=(k:Int)+1
structure Gh where
 V:Int
 who:Int→Nat
 mem:Int→List Int
 n0:Int→Int
 top:Int→Int
 τ:Int→Int→List UInt8
structure GOK (g:Gh):Prop where
 V1:1≤g.V
 who:∀v,1≤v→v≤g.V→g.who v<3
 set:∀v,1≤v→v≤g.V→SetP (g.mem v)∧(∀m∈g.mem v,1≤m∧m≤3)∧(g.mem v).head?=some (YS (g.who v))
 n0:∀v,1≤v→v≤g.V→1≤g.n0 v∧g.n0 v≤g.top v
 chain:∀v,1≤v→v≤g.V→∀n m,g.n0 v≤n→n≤m→m≤g.top v→g.τ v n <+:g.τ v m
 next:∀v,1≤v→v+1≤g.V→YS (g.who (v+1))∈g.mem v∧g.n0 v≤g.n0 (v+1)-1∧g.n0 (v+1)-1≤g.top v∧g.τ (v+1) (g.n0 (v+1))=g.τ v (g.n0 (v+1)-1)
def AckOK (g:Gh) (r:Nat→Rep) (j:Nat) (v n:Int):Prop:=
 v≤(r j).view∧((r j).view=v→n≤(r j).n)∧(v+1≤g.V→g.who (v+1)=j→n≤g.n0 (v+1)-1)
def Evd (g:Gh) (r:Nat→Rep) (v b:Int):Prop:=
 b=g.n0 v∨∀j,j<3→YS j∈g.mem v→v≤(r j).view∧((r j).view=v→b≤(r j).n)
structure ROK (g:Gh) (r:Nat→Rep) (k:Nat):Prop where
 id:(r k).id=YS k
 right:RP (r k)
 view:1≤(r k).view∧(r k).view≤g.V
 n:g.n0 (r k).view≤(r k).n∧(r k).n≤g.top (r k).view
 text:(r k).text=g.τ (r k).view (r k).n
 mem:(r k).members=[]∨(r k).members=g.mem (r k).view∧YS k∈g.mem (r k).view
 top:Yl (r k)=true→(r k).n=g.top (r k).view
 base:Yl (r k)=true→∃b,g.n0 (r k).view≤b∧b≤(r k).n∧(r k).base=g.τ (r k).view b∧((r k).view+1≤g.V→b≤g.n0 ((r k).view+1)-1)∧Evd g r (r k).view b
 acks:Yl (r k)=true→∀a∈(r k).acks,a≠(r k).id→∃j,j<3∧a=YS j∧AckOK g r j (r k).view (r k).n
structure WOK (g:Gh) (r:Nat→Rep) (x:Word):Prop where
 ship:x.kind=1→1≤x.view∧x.view≤g.V∧g.n0 x.view≤x.n∧x.n≤g.top x.view∧x.text=g.τ x.view x.n∧x.members=g.mem x.view∧x.frm=YS (g.who x.view)
 ack:x.kind=2→∃j,j<3∧x.frm=YS j∧AckOK g r j x.view x.n
 past:x.kind=3→x.view≤g.V
structure Fixd where
 text:List UInt8
 at_:Int
structure FOK (g:Gh) (r:Nat→Rep) (x:Fixd):Prop where
 at_:1≤x.at_∧x.at_≤g.V
 b:∃b,g.n0 x.at_≤b∧b≤g.top x.at_∧x.text=g.τ x.at_ b∧(x.at_+1≤g.V→b≤g.n0 (x.at_+1)-1)∧Evd g r x.at_ b
 now:∀k,k<3→Yl (r k)=true→(r k).view=x.at_→x.text <+:(r k).base
structure Told where
 view:Int
 who:Int
 members:List Int
structure Inv1 (g:Gh) (r:Nat→Rep) (net:List Word) (views:List Told) (fx:List Fixd):Prop where
 gk:GOK g
 rk:∀k,k<3→ROK g r k
 told:∀v,1≤v→v≤g.V→v≤(r (g.who v)).view
 netk:∀x∈net,WOK g r x
 viewk:∀t∈views,2≤t.view∧t.view≤g.V∧t.who=(g.who t.view:Int)
 all:∀v,2≤v→v≤g.V→∃t∈views,t.view=v
 fxk:∀x∈fx,FOK g r x
section
variable {g:Gh} {r:Nat→Rep} {net:List Word} {views:List Told} {fx:List Fixd}
theorem Inv1.say (h:Inv1 g r net views fx) {net':List Word} (hn:∀x∈net',WOK g r x):Inv1 g r net' views fx:=⟨h.gk,h.rk,h.told,hn,h.viewk,h.all,h.fxk⟩
end
section
variable {g:Gh} {r:Nat→Rep} {net:List Word} {views:List Told} {fx:List Fixd}
end
structure Thr where
 r:Nat→Rep
 net:List Word
 views:List Told
 fx:List Fixd
 count:Int
def Ydw (net:List Word) (i:Nat):List Word:=net.take i++net.drop (i+1)
theorem Yda {net:List Word} {i:Nat} {x:Word} (h:x∈Ydw net i):x∈net:=by
 rcases GU.1 h with h|h
 ·exact List.mem_of_mem_take h
 ·exact G7 h
abbrev IT (g:Gh) (t:Thr):Prop:=Inv1 g t.r t.net t.views t.fx
section
variable {g:Gh} {t:Thr}
theorem IT.off (h:IT g t) (i:Nat):IT g {t with net:=Ydw t.net i}:=Inv1.say h fun y hy=>h.netk y (Yda hy)
end
section
variable {g:Gh} {t:Thr} {N:Int} {T:List UInt8}
end
@[go_sem] def Ybo (t:Told):List V:=[iz t.view,iz t.who,Yh t.members]
def YU (r:Nat→Rep) (v1 v2 v3 v4 v5:V):List V:=YA (r 0)++(YA (r 1)++(YA (r 2)++[v1,v2,v3,v4,v5]))
@[go_sem] def YaX (t:Thr) (a b c d:Nat):List V:=YU t.r (.own a 7 t.net.length) (.own b 3 t.views.length) (.own c 1 t.fx.length) (.own d 1 t.fx.length) (iz t.count)
structure Arr4 (A:AA) (t:Thr) (a b c d:Nat):Prop where
 ra:A a=some (7,t.net.map Yaj,.live)
 rb:A b=some (3,t.views.map Ybo,.live)
 rc:A c=some (1,t.fx.map (fun f=>[.str f.text]),.live)
 rd:A d=some (1,t.fx.map (fun f=>[iz f.at_]),.live)
 rn:a≠b∧a≠c∧a≠d∧b≠c∧b≠d∧c≠d
def HT (S:St) (v:Nat) (t:Thr) (a b c d:Nat):Prop:=S.μ v=some (YaX t a b c d,false)∧Arr4 S.A t a b c d
theorem Ya5 (r:Rep):(YA r).all V.datC=true:=rfl
section
variable {r:Nat→Rep} {v1 v2 v3 v4 v5 w:V} {k s:Nat} {S:St}
theorem YdC:(YU r v1 v2 v3 v4 v5).length=26:=rfl
theorem YeA:(YU r v1 v2 v3 v4 v5)[21]?=some v1:=rfl
theorem YeB:(YU r v1 v2 v3 v4 v5)[22]?=some v2:=rfl
theorem YeC:(YU r v1 v2 v3 v4 v5)[23]?=some v3:=rfl
theorem YeD:(YU r v1 v2 v3 v4 v5)[24]?=some v4:=rfl
theorem YeE:(YU r v1 v2 v3 v4 v5)[25]?=some v5:=rfl
theorem Yd6:stV S s 21 [w] (some (YU r v1 v2 v3 v4 v5,false))=some ⟨S.ρ,upd S.μ s (some (YU r w v2 v3 v4 v5,false)),S.A⟩:=rfl
theorem Yd7:stV S s 22 [w] (some (YU r v1 v2 v3 v4 v5,false))=some ⟨S.ρ,upd S.μ s (some (YU r v1 w v3 v4 v5,false)),S.A⟩:=rfl
theorem Yd8:stV S s 23 [w] (some (YU r v1 v2 v3 v4 v5,false))=some ⟨S.ρ,upd S.μ s (some (YU r v1 v2 w v4 v5,false)),S.A⟩:=rfl
theorem Yd9:stV S s 24 [w] (some (YU r v1 v2 v3 v4 v5,false))=some ⟨S.ρ,upd S.μ s (some (YU r v1 v2 v3 w v5,false)),S.A⟩:=rfl
theorem Yea:stV S s 25 [w] (some (YU r v1 v2 v3 v4 v5,false))=some ⟨S.ρ,upd S.μ s (some (YU r v1 v2 v3 v4 w,false)),S.A⟩:=rfl
attribute [go_sem] YeA YeB YeC YeD YeE YdC
attribute [go_sem high] Yd6 Yd7 Yd8 Yd9 Yea
end
theorem ren_arr {A:AA} {t:Thr} {a b c d x h:Nat} (hA:Arr4 A t a b c d):Arr4 (fun i=>A (swp x h i)) t (swp x h a) (swp x h b) (swp x h c) (swp x h d):=by
 obtain⟨n1,n2,n3,n4,n5,n6⟩:=hA.rn;have inj:∀{p q:Nat},p≠q→swp x h p≠swp x h q:=fun {p q} hn e=>hn (by
  have:∀r,swp x h (swp x h r)=r:=fun r=>by
   unfold swp;by_cases e1:r=x
   ·subst e1;simp only[GF];split
    ·rename_i e;exact e
    ·rfl
   ·rw[GA e1];by_cases e2:r=h
    ·subst e2;simp
    ·rw[GA e2,GA e1,GA e2]
  rw[←this p,e,this q])
 have inv:∀r,swp x h (swp x h r)=r:=fun r=>by
   unfold swp;by_cases e1:r=x
   ·subst e1;simp only[GF];split
    ·rename_i e;exact e
    ·rfl
   ·rw[GA e1];by_cases e2:r=h
    ·subst e2;simp
    ·rw[GA e2,GA e1,GA e2]
 exact⟨by simp only[inv];exact hA.ra,by simp only[inv];exact hA.rb,by simp only[inv];exact hA.rc,by simp only[inv];exact hA.rd,inj n1,inj n2,inj n3,inj n4,inj n5,inj n6⟩
theorem HT.ren {S:St} {v x h:Nat} {t:Thr} {a b c d:Nat} (hT:HT S v t a b c d):HT (S.ren x h) v t (swp x h a) (swp x h b) (swp x h c) (swp x h d):=by
 refine⟨?_,ren_arr hT.2⟩
 show (S.μ v).map _=_
 rw[hT.1];rfl
theorem Yae {x h p:Nat} (h1:p≠x) (h2:p≠h):swp x h p=p:=by simp[swp,h1,h2]
theorem Ych {T:List Nat} {x h y:Nat} (hx:x∈T) (hh:h∈T) (hy:y∈T):swp x h y∈T:=by
 unfold swp;split
 ·exact hh
 ·split
  ·exact hx
  ·exact hy
theorem HT.head {S:St} {v:Nat} {t:Thr} {a b c d h1 h2 h3 h4:Nat} {Wv Wa:List Nat} (hT:HT S v t a b c d) (hh:h1≠h2∧h1≠h3∧h1≠h4∧h2≠h3∧h2≠h4∧h3≠h4)
  (hv:Wv.contains v=false) (hw:Wa.contains h1=false∧Wa.contains h2=false∧Wa.contains h3=false∧Wa.contains h4=false) :
  HT (S.head [] [v,21,h1,v,22,h2,v,23,h3,v,24,h4] Wv Wa) v t h1 h2 h3 h4∧(∀x,Wa.contains x=true→(S.head [] [v,21,h1,v,22,h2,v,23,h3,v,24,h4] Wv Wa).A x=none)∧
   (∀x,x∉[a,b,c,d,h1,h2,h3,h4]→S.A x=none→(S.head [] [v,21,h1,v,22,h2,v,23,h3,v,24,h4] Wv Wa).A x=none):=by
 obtain⟨q1,q2,q3,q4,q5,q6⟩:=hh
 have s1:=hT.ren (x:=a) (h:=h1)
 rw[JlQ] at s1
 have e1:S.swp1 v 21 h1=S.ren a h1:=by rw[Jj3,hT.1,JlO];rfl
 have T0:∀y∈[a,b,c,d,h1,h2,h3,h4],swp a h1 y∈[a,b,c,d,h1,h2,h3,h4]:=fun y hy=>Ych (by simp) (by simp) hy
 have tb1:=T0 b (by simp)
 have tc1:=T0 c (by simp)
 have td1:=T0 d (by simp)
 generalize swp a h1 b=b1 at *
 generalize swp a h1 c=c1 at *
 generalize swp a h1 d=d1 at *
 obtain⟨n1,n2,n3,n4,n5,n6⟩:=s1.2.rn
 have s2:=s1.ren (x:=b1) (h:=h2)
 rw[JlQ,Yae n1 q1] at s2
 have e2:(S.ren a h1).swp1 v 22 h2=(S.ren a h1).ren b1 h2:=by rw[Jj3,s1.1,JlO];rfl
 have tc2:=Ych (h:=h2) tb1 (by simp) tc1
 have td2:=Ych (h:=h2) tb1 (by simp) td1
 generalize swp b1 h2 c1=c2 at *
 generalize swp b1 h2 d1=d2 at *
 obtain⟨m1,m2,m3,m4,m5,m6⟩:=s2.2.rn
 have s3:=s2.ren (x:=c2) (h:=h3)
 rw[JlQ,Yae m2 q2,Yae m4 q4] at s3
 have e3:((S.ren a h1).ren b1 h2).swp1 v 23 h3=((S.ren a h1).ren b1 h2).ren c2 h3:=by rw[Jj3,s2.1,JlO];rfl
 have td3:=Ych (h:=h3) tc2 (by simp) td2
 generalize swp c2 h3 d2=d3 at *
 obtain⟨l1,l2,l3,l4,l5,l6⟩:=s3.2.rn
 have s4:=s3.ren (x:=d3) (h:=h4)
 rw[JlQ,Yae l3 q3,Yae l5 q5,Yae l6 q6] at s4
 have e4:(((S.ren a h1).ren b1 h2).ren c2 h3).swp1 v 24 h4=(((S.ren a h1).ren b1 h2).ren c2 h3).ren d3 h4:=by rw[Jj3,s3.1,JlO];rfl
 have eh:S.head [] [v,21,h1,v,22,h2,v,23,h3,v,24,h4] Wv Wa=((((S.ren a h1).ren b1 h2).ren c2 h3).ren d3 h4).scrub [] Wv Wa:=by
  rw[Jl9,e1,Jl9,e2,Jl9,e3,Jl9,e4];rfl
 rw[eh]
 refine⟨⟨?_,?_⟩,fun x hx=>?_,fun x hx h0=>?_⟩
 ·show (if Wv.contains v then none else _)=_
  rw[hv,s4.1]
  simp only[Gr,GG,Option.map_some]
  have:(YaX t h1 h2 h3 h4).map (JA Wa)=YaX t h1 h2 h3 h4:=by
   unfold YaX YU;simp only[Gab,Jdv (Ya5 _),Gq,Gt,JA,hw.1,hw.2.1,hw.2.2.1,hw.2.2.2]
   rfl
  rw[this]
  cases Wa.isEmpty<;>rfl
 ·have keep:∀x,Wa.contains x=false→(((((S.ren a h1).ren b1 h2).ren c2 h3).ren d3 h4).scrub [] Wv Wa).A x=((((S.ren a h1).ren b1 h2).ren c2 h3).ren d3 h4).A x:=fun x hx=>by
   show (if Wa.contains x then none else _)=_
   rw[hx];rfl
  exact⟨by rw[keep _ hw.1];exact s4.2.ra,by rw[keep _ hw.2.1];exact s4.2.rb,by rw[keep _ hw.2.2.1];exact s4.2.rc,by rw[keep _ hw.2.2.2];exact s4.2.rd,q1,q2,q3,q4,q5,q6⟩
 ·show (if Wa.contains x then none else _)=_
  rw[hx];rfl
 ·show (if Wa.contains x then none else _)=_
  split
  ·rfl
  ·show S.A (swp a h1 (swp b1 h2 (swp c2 h3 (swp d3 h4 x))))=none
   have ne:∀{y},y∈[a,b,c,d,h1,h2,h3,h4]→x≠y:=fun hy e=>hx (e▸hy)
   rw[Yae (ne td3) (ne (by simp)),Yae (ne tc2) (ne (by simp)),Yae (ne tb1) (ne (by simp)),Yae (ne (by simp)) (ne (by simp))]
   exact h0
theorem Arr4.of {A:AA} {t t':Thr} {a b c d:Nat} (h:Arr4 A t a b c d) (h1:t'.net=t.net) (h2:t'.views=t.views) (h3:t'.fx=t.fx):Arr4 A t' a b c d:=
 ⟨by rw[h1];exact h.ra,by rw[h2];exact h.rb,by rw[h3];exact h.rc,by rw[h3];exact h.rd,h.rn⟩
abbrev Rd:=List UInt8×Bool
@[go_sem] def eRd (r:Rd):List V:=[.str r.1,.bool r.2]
structure Cod {α:Type} (R:Rd→α×Rd) (W:α→List UInt8) (P:α→Prop):Prop where
 get:∀{s r:List UInt8} {a:α},R (s,false)=(a,(r,false))→s=W a++r∧P a
 put:∀{r:List UInt8} {a:α},P a→R (W a++r,false)=(a,(r,false))
 bad:∀{s:List UInt8},(R (s,true)).2.2=true
 len:∀x,(R x).2.1.length≤x.1.length
section
variable {α β:Type}
def mapR (g:α→β) (R:Rd→α×Rd) (x:Rd):β×Rd:=(g (R x).1,(R x).2)
theorem Cod.map {R:Rd→α×Rd} {W:α→List UInt8} {P:α→Prop} (h:Cod R W P) {g:α→β} {k:β→α} (hk:∀a,k (g a)=a):Cod (mapR g R) (fun b=>W (k b)) (fun b=>P (k b)∧g (k b)=b):=by
 refine⟨fun {s r b} hb=>?_,fun {r b} hb=>?_,fun {s}=>h.bad,fun x=>h.len x⟩
 ·simp only[mapR,Gf] at hb;obtain⟨e1,e2⟩:=hb;obtain⟨g1,g2⟩:=h.get (Prod.ext (x:=R (s,false)) (y:=((R (s,false)).1,(r,false))) rfl e2);subst e1;rw[hk];exact⟨g1,g2,rfl⟩
 ·simp only[mapR];rw[h.put hb.1];simp only[hb.2]
def YP (W:α→List UInt8) (l:List α):List UInt8:=putB l.length++l.flatMap W
variable {R:Rd→α×Rd} {W:α→List UInt8} {P:α→Prop}
theorem Y5 (hW:∀a,P a→1≤(W a).length):∀{l:List α},(∀a∈l,P a)→l.length≤(l.flatMap W).length
 |[],_=>by simp
 |a::l,hl=>by
  have h1:=hW a (hl a (by simp));have h2:=Y5 hW (l:=l) fun b hb=>hl b (by simp[hb]);simp only[Gu,Gc,List.length_cons];omega
end
theorem YaM {t:List UInt8}:1≤(Yt t).length:=by
 have:=YY t.length;simp only[Yt,Gc];omega
structure Rb where
 s:List UInt8
 no:Bool
 h:s.length≤2 ^ 29
def Rb.d (x:Rb):Rd:=(x.s,x.no)
def eR (x:Rb):List V:=[.str x.s,.bool x.no]
theorem YdP (x:Rb):(eR x).length=2:=rfl
theorem YeW (x:Rb):(eR x)[0]?=some (.str x.s):=rfl
theorem YeX (x:Rb):(eR x)[1]?=some (.bool x.no):=rfl
variable {α β:Type}
structure Rg (α:Type) where
 f:Rd→α×Rd
 le:∀x,(f x).2.1.length≤x.1.length
def Rg.v (R:Rg α) (x:Rb):α:=(R.f x.d).1
def Rg.n (R:Rg α) (x:Rb):Rb:=⟨(R.f x.d).2.1,(R.f x.d).2.2,GH (R.le x.d) x.h⟩
theorem Rg.k {R:Rg α} {f:Nat} {e:α→V} (k:∀x:Rd,x.1.length<2 ^ 62→K' Pg f [.tuple (.lref 0 0::eRd x)]=some (.tuple [e (R.f x).1,.tuple (eRd (R.f x).2)])) (x:Rb) :
  K' Pg f [.tuple (.lref 0 0::eR x)]=some (.tuple [e (R.v x),.tuple (eR (R.n x))]):=k x.d (by have:=x.h;show x.s.length<_;omega)
def Rg.map (g:α→β) (R:Rg α):Rg β:=⟨mapR g R.f,R.le⟩
structure Place where
 span:Span
 shard:Int
 cell:Int
 epoch:Int
 deriving DecidableEq
@[go_sem] def ePl (p:Place):List V:=[.str p.span.lo,.str p.span.hi,iz p.shard,iz p.cell,iz p.epoch]
@[go_sem] def Ys (l:List Place):V:=.slice 5 (l.map ePl)
def YW (n:Int):Bool:=decide (1≤n)&&decide (n≤1099511627776)
def YaN (n:Int):Bool:=decide (1≤n)&&decide (n≤3)
def YaV (p:Place):Bool:=YW p.shard&&(YW p.epoch&&YaN p.cell)
def gR:List Place→Bool
 |[]=>true
 |p::l=>YaV p&&(!(l.any fun q=>decide (q.shard=p.shard))&&gR l)
def gA:List Place→List Place→Bool
 |_,[]=>true
 |seen,p::l=>YaV p&&(!(seen.any fun q=>decide (q.shard=p.shard))&&gA (seen++[p]) l)
theorem YdG:∀(l seen:List Place),gA seen l=(gR l&&l.all fun p=>!(seen.any fun q=>decide (q.shard=p.shard)))
 |[],seen=>by simp[gA,gR]
 |p::l,seen=>by
  have h1:(l.all fun q=>!((seen++[p]).any fun r=>decide (r.shard=q.shard)))=((l.all fun q=>!(seen.any fun r=>decide (r.shard=q.shard)))&&!(l.any fun q=>decide (q.shard=p.shard))):=by
   rw[List.not_any_eq_all_not];rw[Bool.eq_iff_iff];simp only[Gi,Gv,GJ,List.any_append,List.any_cons,List.any_nil,Bool.or_false,Bool.or_eq_false_iff,GN];exact⟨fun h=>⟨fun q hq=>(h q hq).1,fun q hq=>fun e=>(h q hq).2 e.symm⟩,fun h q hq=>⟨h.1 q hq,fun e=>h.2 q hq e.symm⟩⟩
  simp only[gA,gR,List.all_cons,YdG l (seen++[p]),h1];cases YaV p<;>cases (seen.any fun q=>decide (q.shard=p.shard))<;>cases (l.any fun q=>decide (q.shard=p.shard))<;>cases gR l<;>simp
def Yr (l:List Place):Bool:=decide (l.length≤8)&&(gR l&&Yao (l.map Place.span))
theorem Ye7 {l:List Place}:gA [] l=gR l:=by
 rw[YdG];simp
def H162 (Pg:PgT):Prop:=Pg 162=some (.code F162)
theorem K162 (h:H162 Pg) (n:Int):K' Pg 162 [iz n]=some (.bool (YW n)):=by
 refine JdB h rfl ?_;simp only[go_sem];cases c1:decide (1≤n)<;>simp only[go_sem,c1,YW]
def H163 (Pg:PgT):Prop:=Pg 163=some (.code F163)
theorem K163 (h:H163 Pg) (n:Int):K' Pg 163 [iz n]=some (.bool (YaN n)):=by
 refine JdB h rfl ?_;simp only[go_sem];cases c1:decide (1≤n)<;>simp only[go_sem,c1,YaN]
def H164 (Pg:PgT):Prop:=Pg 164=some (.code F164)
theorem K164 (h:H164 Pg) (q p:Place):K' Pg 164 [.agg (ePl q),.cptr (ePl p) 0]=some (.bool (decide (q.shard=p.shard))):=by
 refine JdB h rfl ?_;simp only[go_sem]
def H194 (Pg:PgT):Prop:=Pg 194=some (.code F194)
theorem K194 (h:H194 Pg) (q:Place) (n:Int):K' Pg 194 [.agg (ePl q),.cptr [iz n] 0]=some (.bool (decide (q.shard=n))):=by
 refine JdB h rfl ?_;simp only[go_sem]
def YaT:List Place→(Place→Bool)→Nat→Int
 |[],_,_=>-1
 |a::l,p,i=>if p a then i else YaT l p (i+1)
theorem Yck:∀{l:List Place} {p:Place→Bool} {i:Nat},decide (0≤YaT l p i)=l.any p
 |[],p,i=>by simp[YaT]
 |a::l,p,i=>by
  simp only[YaT];split
  ·rename_i h;simp[h]
  ·rename_i h;rw[Yck];simp[h]
def H185 (Pg:PgT):Prop:=Pg 185=some (.code F185)
theorem K185 (h:H185 Pg) (l:List Place) (g:Nat) (cap:List V) (p:Place→Bool) (hl:l.length<2 ^ 60) (hg:∀x∈l,K' Pg g (.agg (ePl x)::cap)=some (.bool (p x))) :
  K' Pg 185 [Ys l,.func g cap]=some (iz (YaT l p 0)):=by
 refine JdB h rfl ?_
 simp only[ePl] at hg
 simp only[go_sem]
 unfold l185_0
 refine Jms (fun (i:Nat) S=>i≤l.length∧S.ρ 0=Ys l∧S.ρ 1=.func g cap∧S.ρ 7=iz l.length∧S.ρ 8=iz i∧YaT (l.drop i) p i=YaT l p 0) (fun i=>l.length-i) 0 ?_ ?_
 ·simp[go_sem]
 ·intro i S ⟨hi,h0,h1,h7,h8,ho⟩
  simp only[go_sem,h7,h8]
  refine Jmt (fun h=>?_) (fun h=>?_)
  ·have h:=Yi h
   obtain⟨x,hx,hd⟩:=Jl8 h
   rw[hd] at ho
   have hgx:=hg x (List.mem_of_getElem? hx)
   simp only[go_sem,h0,h1,h8,hx,hgx]
   refine Jmt (fun hc=>?_) (fun hc=>?_)
   ·simp only[YaT,hc,GF] at ho
    simp only[go_sem,←ho]
   ·simp only[YaT,hc,Gr,GG] at ho
    simp only[go_sem,h0,h1,h7,h8]
    exact⟨i+1,by omega,by omega,by rw[Yj h hl],ho⟩
  ·have h:=Yo hi h
   subst h
   simp only[Gag,YaT] at ho
   simp only[go_sem,←ho]
def H165 (Pg:PgT):Prop:=Pg 165=some (.code F165)∧H185 Pg
theorem K165 (h:H165 Pg) (l:List Place) (g:Nat) (cap:List V) (p:Place→Bool) (hl:l.length<2 ^ 60) (hg:∀x∈l,K' Pg g (.agg (ePl x)::cap)=some (.bool (p x))) :
  K' Pg 165 [Ys l,.func g cap]=some (.bool (l.any p)):=by
 obtain⟨h,h185⟩:=h
 have k:=K185 h185 l g cap p hl hg
 simp only[Ys] at k
 refine JdB h rfl ?_
 simp only[go_sem,k,Yck]
def H141 (Pg:PgT):Prop:=Pg 141=some (.code F141)∧H162 Pg∧H163 Pg∧H164 Pg∧H165 Pg∧H166 Pg
theorem K141 (h:H141 Pg) (l:List Place):K' Pg 141 [Ys l]=some (.bool (Yr l)):=by
 obtain⟨h,h162,h163,h164,h165,h166⟩:=h;have k162:=fun x=>K162 h162 x;have k163:=fun x=>K163 h163 x;refine JdB h rfl ?_;simp only[go_sem];refine Jmt (fun hc=>?_) (fun hc=>?_)
 ·have hc:¬l.length≤8:=by have:=Gp hc;omega
  simp only[go_sem,Yr,hc]
 have hc:l.length≤8:=by have:=Gk hc;omega
 have hr:Yr l=(gR l&&Yao (l.map Place.span)):=by simp[Yr,hc]
 rw[hr];have k166:=K166 h166 (l.map Place.span) (by simp;omega);simp only[Ybk] at k166;simp only[go_sem];unfold l141_0;refine Jms (fun (i:Nat) S=>i≤l.length∧S.ρ 0=Ys l∧S.μ 5=none∧S.A 3=some (2,((l.take i).map Place.span).map Yw,.live)∧S.ρ 3=.own 3 2 i∧S.ρ 9=Ys l∧S.ρ 10=iz l.length∧S.ρ 11=iz i∧gA (l.take i) (l.drop i)=gR l) (fun i=>l.length-i) 0 ?_ ?_
 ·simp[go_sem,Ye7]
 ·intro i S ⟨hi,h0,m5,a3,h3,h9,h10,h11,ho⟩;have hlim:((List.map Place.span (List.take i l)).map Yw).length+1≤lim:=by simp[lim];omega
  have hil:((List.map Place.span (List.take i l)).map Yw).length=i:=by simp;omega
  have hlim:i+1≤lim:=by simp[lim];omega
  simp only[go_sem,h10,h11];refine Jmt (fun h=>?_) (fun h=>?_)
  ·have h:=Yi h;obtain⟨x,hx,hd⟩:=Jl8 h;rw[hd] at ho;simp only[gA] at ho;have kc:=K165 h165 (l.take i) 164 [.cptr (ePl x) 0] (fun q=>decide (q.shard=x.shard)) (by simp;omega) (fun q _=>K164 h164 q x);simp only[Ys,ePl,List.map_take] at kc;simp only[go_sem,m5,h9,h11,hx,k162];cases c1:YW x.shard with
   |false=>
    simp only[YaV,c1,GK] at ho;simp only[go_sem,←ho]
   |true=>
   cases c2:YW x.epoch with
   |false=>
    simp only[YaV,c1,c2,GK,G9] at ho;simp only[go_sem,c2,←ho,k162]
   |true=>
   cases c3:YaN x.cell with
   |false=>
    simp only[YaV,c1,c2,c3,GK,G9] at ho;simp only[go_sem,c2,c3,←ho,k162,k163]
   |true=>
   simp only[YaV,c1,c2,c3,GW] at ho;simp only[go_sem,c2,c3,h0,k162,k163,hi,kc];cases c4:(l.take i).any (fun q=>decide (q.shard=x.shard)) with
   |true=>
    rw[c4] at ho;simp only[Gam,GK] at ho;simp only[go_sem,←ho]
   |false=>
    rw[c4] at ho;simp only[G5,GW] at ho;simp only[go_sem,h0,a3,h3,h9,h10,h11,hil,hlim];refine⟨i+1,by omega,by omega,?_,?_,by rw[Yj h (by omega)],by rw[Yx hx];exact ho⟩
    ·rw[Yx hx];simp[Yw]
    ·rfl
  ·have h:=Yo hi h;subst h;rw[GP] at a3 ho;rw[Gag] at ho;have ho:true=gR l:=ho;simp only[go_sem,a3,h3,k166,←ho]
def YR:Place:=⟨⟨[],[]⟩,0,0,0⟩
@[go_sem] def eOP (o:Option Place):V:=.tuple [.agg (ePl (o.getD YR)),.bool o.isSome]
structure Lse where
 id:Int
 lft:Int
 at_:Stamp
 deriving DecidableEq
@[go_sem] def Y9 (l:Lse):List V:=[iz l.id,iz l.lft,iz l.at_.wall,iz l.at_.tick,iz l.at_.node]
@[go_sem] def Yv (l:List Lse):V:=.slice 5 (l.map Y9)
def Yaw (l:Lse):Bool:=decide (l.id≤1099511627776)&&(decide (1≤l.lft)&&(decide (l.lft≤20)&&Ya l.at_))
def rlR:Int→List Lse→Bool
 |_,[]=>true
 |p,d::l=>decide (p<d.id)&&(Yaw d&&rlR d.id l)
def Yu (t:List Lse):Bool:=rlR 0 t&&decide (t.length≤4)
theorem Ycp {p:Int} {d:Lse} {l:List Lse}:rlR p (d::l)=(decide (p<d.id)&&(Yaw d&&rlR d.id l)):=rfl
def Yax (t:List Lse) (i:Nat):Int:=if i=0 then 0 else (t[i-1]?.map Lse.id).getD 0
theorem Yco {a b:Int}:decide (b≤a)=!decide (a<b):=by by_cases h:a<b<;>simp[h]<;>omega
theorem Ybt {a b:Int}:decide (b<a)=!decide (a≤b):=by by_cases h:a≤b<;>simp[h]<;>omega
theorem Yc8 {a:Int}:decide (a<1)=!decide (1≤a):=by by_cases h:1≤a<;>simp[h]<;>omega
def H126 (Pg:PgT):Prop:=Pg 126=some (.code F126)∧H28 Pg
theorem K126 (h:H126 Pg) (t:List Lse) (hl:t.length<2 ^ 60):K' Pg 126 [Yv t]=some (.bool (Yu t)):=by
 obtain⟨h,h28⟩:=h;have k28:=fun x=>K28 h28 x;simp only[Yg] at k28;refine JdB h rfl ?_;simp only[go_sem];unfold l126_0;refine Jms (fun (i:Nat) S=>i≤t.length∧S.ρ 0=Yv t∧S.μ 5=none∧S.ρ 3=iz (Yax t i)∧S.ρ 6=Yv t∧S.ρ 7=iz t.length∧S.ρ 8=iz i∧rlR (Yax t i) (t.drop i)=rlR 0 t) (fun i=>t.length-i) 0 ?_ ?_
 ·simp[go_sem,Yax]
 ·intro i S ⟨hi,h0,m5,h3,h6,h7,h8,ho⟩;simp only[go_sem,h7,h8];refine Jmt (fun h=>?_) (fun h=>?_)
  ·have h:=Yi h;obtain⟨x,hx,hd⟩:=Jl8 h;have hnext:Yax t (i+1)=x.id:=by simp[Yax,hx]
   rw[hd,Ycp] at ho;have e1:decide (x.id≤Yax t i)=!decide (Yax t i<x.id):=Yco;have e2:decide (1099511627776<x.id)=!decide (x.id≤1099511627776):=Ybt;have e3:decide (x.lft<1)=!decide (1≤x.lft):=Yc8;have e4:decide (20<x.lft)=!decide (x.lft≤20):=Ybt;simp only[go_sem,m5,h3,h6,h8,hx,e1];cases c1:decide (Yax t i<x.id) with
   |false=>rw[c1] at ho;simp only[go_sem,Yu,←ho]
   |true=>
   cases c2:decide (x.id≤1099511627776) with
   |false=>simp only[Yaw,c2,GK,G9] at ho;simp only[go_sem,c2,e2,Yu,←ho]
   |true=>
   cases c3:decide (1≤x.lft) with
   |false=>simp only[Yaw,c3,GK,G9] at ho;simp only[go_sem,c2,c3,e2,e3,Yu,←ho]
   |true=>
   cases c4:decide (x.lft≤20) with
   |false=>simp only[Yaw,c4,GK,G9] at ho;simp only[go_sem,c2,c3,c4,e2,e3,e4,Yu,←ho]
   |true=>
   cases c5:Ya x.at_ with
   |false=>simp only[Yaw,c5,GK,G9] at ho;simp only[go_sem,c2,c3,c4,c5,e2,e3,e4,Yu,←ho,k28]
   |true=>
    simp only[Yaw,c1,c2,c3,c4,c5,GW] at ho;simp only[go_sem,c2,c3,c4,c5,e2,e3,e4,h0,h6,h7,h8,k28];exact⟨i+1,by omega,by omega,by rw[hnext],by rw[Yj h hl],by rw[hnext];exact ho⟩
  ·have h:=Yo hi h;subst h;simp only[Gag,rlR] at ho;have e8:decide ((t.length:Int)≤4)=decide (t.length≤4):=decide_eq_decide.2 (by omega);simp only[go_sem,h0,Yu,←ho,e8]
theorem Ya6 {p:Int} {d:Lse} {l:List Lse} (h:rlR p (d::l)=true):p<d.id∧Yaw d=true∧rlR d.id l=true:=by
 simpa [rlR] using h
theorem YbV:∀{l:List Lse} {p:Int} {d:Lse},rlR p l=true→d∈l→p<d.id
 |[],_,_,_,h=>by simp at h
 |a::l,p,d,h,hd=>by
  obtain⟨h1,-,h3⟩:=Ya6 h;rcases GM.1 hd with rfl|hd
  ·exact h1
  ·have:=YbV h3 hd;omega
theorem Ycq:∀{l:List Lse} {p:Int} {d:Lse},rlR p l=true→d∈l→Yaw d=true
 |[],_,_,_,h=>by simp at h
 |a::l,p,d,h,hd=>by
  obtain⟨-,h2,h3⟩:=Ya6 h;rcases GM.1 hd with rfl|hd
  ·exact h2
  ·exact Ycq h3 hd
theorem Yap {t:List Lse} (h:Yu t=true):rlR 0 t=true∧t.length≤4:=by simpa [Yu] using h
@[go_sem] def YO (l:List Stamp):V:=.slice 3 (l.map Yg)
structure Inf where
 view:Int
 mem:List Int
 whole:Bool
 deriving DecidableEq
structure Jb where
 kind:Int
 step:Int
 id:Int
 shard:Int
 other:Int
 cell:Int
 to:Int
 epoch:Int
 key:List UInt8
 parts:List (List UInt8)
 of_:Int
 client:Int
 req:Int
 span:Span
 wait:List Int
 at_:Stamp
 mem:List Int
structure ORw where
 client:Int
 req:Int
 lease:Int
 at_:Stamp
 err:Int
structure Drc where
 places:List Place
 cells:List Inf
 next:Int
 leases:List Lse
 lows:List Stamp
 mark:Stamp
 job:Jb
 opened:List ORw
def eI1 (a:Int):List V:=[iz a]
def eS1 (s:List UInt8):List V:=[.str s]
@[go_sem] def Ybn (l:List (List UInt8)):V:=.slice 1 (l.map eS1)
@[go_sem] def YbY (i:Inf):List V:=[iz i.view,Yh i.mem,.bool i.whole]
@[go_sem] def YbC (l:List Inf):V:=.slice 3 (l.map YbY)
@[go_sem] def eJb (j:Jb):List V:=[iz j.kind,iz j.step,iz j.id,iz j.shard,iz j.other,iz j.cell,iz j.to,iz j.epoch,.str j.key,Ybn j.parts,iz j.of_,iz j.client,iz j.req,.str j.span.lo,.str j.span.hi,Yh j.wait,iz j.at_.wall,iz j.at_.tick,iz j.at_.node,Yh j.mem]
@[go_sem] def Ycb (r:ORw):List V:=[iz r.client,iz r.req,iz r.lease,iz r.at_.wall,iz r.at_.tick,iz r.at_.node,iz r.err]
@[go_sem] def Yb4 (l:List ORw):V:=.slice 7 (l.map Ycb)
@[go_sem] def Y6 (d:Drc):List V:=[Ys d.places,YbC d.cells,iz d.next,Yv d.leases,YO d.lows,iz d.mark.wall,iz d.mark.tick,iz d.mark.node,iz d.job.kind,iz d.job.step,iz d.job.id,iz d.job.shard,iz d.job.other,iz d.job.cell,iz d.job.to,iz d.job.epoch,.str d.job.key,Ybn d.job.parts,iz d.job.of_,iz d.job.client,iz d.job.req,.str d.job.span.lo,.str d.job.span.hi,Yh d.job.wait,iz d.job.at_.wall,iz d.job.at_.tick,iz d.job.at_.node,Yh d.job.mem,Yb4 d.opened]
def nilOr (s z n:Nat):V:=if n=0 then .nslice z else .own s z n
def YaO (z:Nat) (rows:List (List V)) (n:Nat):Option (Nat×List (List V)×Fz):=if n=0 then none else some (z,rows,.live)
@[go_sem] theorem Yed {s z n:Nat}:(nilOr s z n).cells=some [nilOr s z n]:=by unfold nilOr;split<;>rfl
def frQ (m n:Int):Bool:=!(decide (n<m)||decide (1099511627776<n))
def YH (n:Int):Bool:=frQ 0 n
theorem Yb9 {m:Int}:∀{l:List Int},(!(l.any fun n=>decide (n<m)||decide (1099511627776<n)))=l.all (frQ m)
 |[]=>rfl
 |a::l=>by
  simp only[List.any_cons,List.all_cons,←Yb9 (l:=l),frQ,Bool.not_or]
def H369 (Pg:PgT):Prop:=Pg 369=some (.code F369)
theorem K369 (h:H369 Pg) (n m:Int):K' Pg 369 [iz n,.cptr [iz m] 0]=some (.bool (decide (n<m)||decide (1099511627776<n))):=by
 refine JdB h rfl ?_;cases c:decide (n<m)<;>simp only[go_sem,c,Bool.true_or,Bool.false_or]
def H347 (Pg:PgT):Prop:=Pg 347=some (.code F347)∧H67 Pg∧H369 Pg
theorem K347 (h:H347 Pg) (m:Int) (l:List Int) (hl:l.length<2 ^ 60):K' Pg 347 [iz m,Yh l]=some (.bool (l.all (frQ m))):=by
 obtain⟨h,h67,h369⟩:=h;have k:=K67 h67 l 369 [.cptr [iz m] 0] (fun n=>decide (n<m)||decide (1099511627776<n)) hl rfl (fun n _=>K369 h369 n m);simp only[Yh] at k;refine JdB h rfl ?_;rw[←Yb9];simp only[go_sem,Yh,k]
theorem K347a (h:H347 Pg) (m a:Int):K' Pg 347 [iz m,.slice 1 [[iz a]]]=some (.bool (frQ m a)):=by
 have:=K347 h m [a] (by simp);simpa [Yh] using this
theorem K347b (h:H347 Pg) (m a b:Int):K' Pg 347 [iz m,.slice 1 [[iz a],[iz b]]]=some (.bool (frQ m a&&frQ m b)):=by
 have:=K347 h m [a,b] (by simp);simpa [Yh] using this
def Ybw (j:Jb):Bool:=YH j.id&&(YH j.shard&&(YH j.other&&(YH j.epoch&&(YH j.of_&&(YH j.client&&YH j.req)))))
theorem K347g (h:H347 Pg) (j:Jb):K' Pg 347 [iz 0,.slice 1 [[iz j.id],[iz j.shard],[iz j.other],[iz j.epoch],[iz j.of_],[iz j.client],[iz j.req]]]=some (.bool (Ybw j)):=by
 have:=K347 h 0 [j.id,j.shard,j.other,j.epoch,j.of_,j.client,j.req] (by simp);simpa [Yh,Ybw,YH,Bool.and_assoc] using this
def Yee (l:List Int):Prop:=l≠[]∧(∀m∈l,1≤m∧m≤3)∧l.Nodup
instance (l:List Int):Decidable (Yee l):=inferInstanceAs (Decidable (_∧_∧_))
def Ya7 (l:List Int):Bool:=decide (Yee l)
theorem Ybi {l:List Int} {i:Nat} {x:Int} (hx:l[i]?=some x) (h:¬(1≤x∧x≤3)∨x∈l.take i):Ya7 l=false:=by
 refine Ge ?_;rintro⟨-,h2,h3⟩;rcases h with h|h
 ·exact h (h2 x (List.mem_of_getElem? hx))
 ·have hi:i<l.length:=by
   rcases Gw i l.length with h|h
   ·exact h
   ·rw[List.getElem?_eq_none h] at hx;simp at hx
  obtain⟨y,hy,hd⟩:=Jl8 hi;have:x=y:=by rw[hx] at hy;simpa using hy
  subst this;rw[←Gah i l,hd,Gai] at h3;exact h3.2.2 x h x (Gad ..) rfl
theorem Ycs {l:List Int} {i:Nat} {x:Int} (hx:l[i]?=some x) (h:(∀m∈l.take i,1≤m∧m≤3)∧(l.take i).Nodup) (h1:1≤x∧x≤3) (h2:x∉l.take i) :
  (∀m∈l.take (i+1),1≤m∧m≤3)∧(l.take (i+1)).Nodup:=by
 rw[Yx hx]
 refine⟨fun m hm=>?_,?_⟩
 ·rcases GU.1 hm with hm|hm
  ·exact h.1 m hm
  ·have:m=x:=by simpa using hm
   rw[this];exact h1
 ·rw[Gai]
  refine⟨h.2,by simp,fun a ha b hb e=>?_⟩
  have:b=x:=by simpa using hb
  rw[←this,←e] at h2
  exact h2 ha
theorem YcL {l:List Int} (h1:∀m∈l,1≤m∧m≤3) (h2:l.Nodup):decide ((0:Int)<(l.length:Int))=Ya7 l:=by
 refine decide_eq_decide.2 ⟨fun e=>⟨fun h=>by subst h;simp at e,h1,h2⟩,fun e=>?_⟩;have:=List.length_pos_iff.2 e.1;omega
def H348 (Pg:PgT):Prop:=Pg 348=some (.code F348)∧H65 Pg
theorem K348 (h:H348 Pg) (l:List Int) (hl:l.length<2 ^ 60):K' Pg 348 [Yh l]=some (.bool (Ya7 l)):=by
 obtain⟨h,h65⟩:=h;refine JdB h rfl ?_;simp only[go_sem];unfold l348_0;refine Jms (fun (i:Nat) S=>i≤l.length∧S.ρ 0=Yh l∧S.ρ 5=Yh l∧S.ρ 6=iz l.length∧S.ρ 7=iz i∧(∀m∈l.take i,1≤m∧m≤3)∧(l.take i).Nodup) (fun i=>l.length-i) 0 ?_ ?_
 ·simp[go_sem]
 ·intro i S ⟨hi,h0,h5,h6,h7,ho1,ho2⟩;simp only[go_sem,h6,h7];refine Jmt (fun h=>?_) (fun h=>?_)
  ·have h:=Yi h;obtain⟨x,hx,hd⟩:=Jl8 h;have k65:=K65 h65 (l.take i) x (by simp;omega);simp only[Yh,List.map_take] at k65;simp only[go_sem,h5,h7,hx];cases c1:decide (x<1) with
   |true=>
    have hs:=Ybi hx (.inl (by have:=Gp c1;omega));simp only[go_sem,hs]
   |false=>
   cases c2:decide (3<x) with
   |true=>
    have hs:=Ybi hx (.inl (by have:=Gp c2;omega));simp only[go_sem,c2,hs]
   |false=>
   have hx13:1≤x∧x≤3:=by have:=Gk c1;have:=Gk c2;omega
   cases c3:decide (x∈l.take i) with
   |true=>
    have hs:=Ybi hx (.inr (Gp c3));simp only[go_sem,h0,hi,c2,c3,k65,hs]
   |false=>
    have hn:=Ycs hx ⟨ho1,ho2⟩ hx13 (Gk c3);simp only[go_sem,h0,h5,h6,h7,hi,c2,c3,k65];exact⟨i+1,by omega,by omega,by rw[Yj h hl],hn.1,hn.2⟩
  ·have h:=Yo hi h;rw[Yak h] at ho1 ho2;simp only[go_sem,h0,YcL ho1 ho2]
def YJ (j:Jb):Bool:=!decide (j.kind<0)&&(!decide (5<j.kind)&&(!decide (j.step<0)&&(!decide (7<j.step)&&(Ybw j&&(j.wait.all YH&&Ya j.at_)))))
def YaQ (j:Jb):Bool:=!decide (j.cell<0)&&(!decide (3<j.cell)&&(!decide (j.to<0)&&(!decide (3<j.to)&&(decide (j.mem=[])||Ya7 j.mem))))
def YaZ (j:Jb):Bool:=if decide (j.kind=5) then decide (0<j.cell)&&!decide (j.mem=[]) else if decide (j.kind=1) then decide (0<j.cell)&&decide (0<j.to) else if decide (j.kind=2)||decide (j.kind=3) then decide (0<j.cell) else true
def YV (j:Jb):Bool:=YJ j&&(YaQ j&&YaZ j)
def SmJ (j:Jb):Prop:=j.wait.length≤10000∧j.mem.length≤10000∧j.parts.length≤10000
def H346 (Pg:PgT):Prop:=Pg 346=some (.code F346)∧H28 Pg∧H347 Pg∧H348 Pg
theorem K346 (h:H346 Pg) (j:Jb) (hj:SmJ j):K' Pg 346 [.agg (eJb j)]=some (.bool (YV j)):=by
 obtain⟨h,h28,h347,h348⟩:=h;have a7:=K347g h347 j;have aw:=K347 h347 0 j.wait (by have:=hj.1;omega);have k28:=K28 h28 j.at_;have k348:=K348 h348 j.mem (by have:=hj.2.1;omega);have ef:frQ 0=YH:=rfl;rw[ef] at aw;simp only[Yg,Yh] at k28 aw k348;clear hj h28 h347 h348 ef;refine JdB h rfl ?_;clear h;cases c1:decide (j.kind<0) with
 |true=>simp only[go_sem,YV,YJ, *]
 |false=>
 cases c2:decide (5<j.kind) with
 |true=>simp only[go_sem,YV,YJ, *]
 |false=>
 cases c3:decide (j.step<0) with
 |true=>simp only[go_sem,YV,YJ, *]
 |false=>
 cases c4:decide (7<j.step) with
 |true=>simp only[go_sem,YV,YJ, *]
 |false=>
 cases c5:Ybw j with
 |false=>simp only[go_sem,YV,YJ, *]
 |true=>
 cases c6:j.wait.all YH with
 |false=>simp only[go_sem,YV,YJ, *]
 |true=>
 cases c7:Ya j.at_ with
 |false=>simp only[go_sem,YV,YJ, *]
 |true=>
 cases c8:decide (j.cell<0) with
 |true=>simp only[go_sem,YV,YJ,YaQ, *]
 |false=>
 cases c9:decide (3<j.cell) with
 |true=>simp only[go_sem,YV,YJ,YaQ, *]
 |false=>
 cases c10:decide (j.to<0) with
 |true=>simp only[go_sem,YV,YJ,YaQ, *]
 |false=>
 cases c11:decide (3<j.to) with
 |true=>simp only[go_sem,YV,YJ,YaQ, *]
 |false=>
 have hm:YaQ j=(decide (j.mem=[])||Ya7 j.mem):=by simp only[YaQ, *];rfl
 have h0:YJ j=true:=by simp only[YJ, *];rfl
 have hq:YV j=((decide (j.mem=[])||Ya7 j.mem)&&YaZ j):=by simp only[YV,hm,h0,GW]
 rw[hq];clear hq hm h0;cases c12:decide (j.mem=[]) with
 |true=>
  cases d1:decide (j.kind=5) with
  |true=>cases d2:decide (0<j.cell)<;>simp only[go_sem,Y0,YaZ, *]
  |false=>
  cases d3:decide (j.kind=1) with
  |true=>cases d2:decide (0<j.cell)<;>cases d4:decide (0<j.to)<;>simp only[go_sem,Y0,YaZ, *]
  |false=>
  cases d5:decide (j.kind=2) with
  |true=>cases d2:decide (0<j.cell)<;>simp only[go_sem,Y0,YaZ, *]
  |false=>cases d6:decide (j.kind=3)<;>cases d2:decide (0<j.cell)<;>simp only[go_sem,Y0,YaZ, *]
 |false=>
 cases c13:Ya7 j.mem with
 |false=>simp only[go_sem,Y0, *]
 |true=>
  cases d1:decide (j.kind=5) with
  |true=>cases d2:decide (0<j.cell)<;>simp only[go_sem,Y0,YaZ, *]
  |false=>
  cases d3:decide (j.kind=1) with
  |true=>cases d2:decide (0<j.cell)<;>cases d4:decide (0<j.to)<;>simp only[go_sem,Y0,YaZ, *]
  |false=>
  cases d5:decide (j.kind=2) with
  |true=>cases d2:decide (0<j.cell)<;>simp only[go_sem,Y0,YaZ, *]
  |false=>cases d6:decide (j.kind=3)<;>cases d2:decide (0<j.cell)<;>simp only[go_sem,Y0,YaZ, *]
def Yby (x:Inf):Bool:=frQ 1 x.view&&Ya7 x.mem
def Ybu (r:ORw):Bool:=!decide (8<r.client)&&(YH r.req&&(YH r.lease&&(Ya r.at_&&(!decide (r.err<0)&&!decide (16<r.err)))))
def opQ:Int→List ORw→Bool
 |_,[]=>true
 |p,r::l=>!decide (r.client≤p)&&(Ybu r&&opQ r.client l)
def Yay (l:List ORw) (i:Nat):Int:=if i=0 then 0 else (l[i-1]?.map ORw.client).getD 0
theorem YcK {l:List ORw} {i:Nat} {x:ORw} (h:l[i]?=some x):Yay l (i+1)=x.client:=by simp[Yay,h]
def Yai (d:Drc):Bool:=Yr d.places&&(Yu d.leases&&(decide ((d.cells.length:Int)=3)&&(decide ((d.lows.length:Int)=3)&&(!decide (d.next<2)&&(!decide (1099511627776<d.next)&&(Ya d.mark&&(YV d.job&&!decide (8<(d.opened.length:Int)))))))))
def Yaf (d:Drc):Bool:=Yai d&&((d.cells.all Yby&&d.lows.all Ya)&&opQ 0 d.opened)
def SmD (d:Drc):Prop:=d.leases.length≤10000∧d.opened.length≤10000∧SmJ d.job∧(∀x∈d.cells,x.mem.length≤10000)
def H328 (Pg:PgT):Prop:=Pg 328=some (.code F328)∧H28 Pg∧H126 Pg∧H141 Pg∧H346 Pg∧H347 Pg∧H348 Pg
theorem K328 (h:H328 Pg) (d:Drc) (hd:SmD d):K' Pg 328 [.agg (Y6 d)]=some (.bool (Yaf d)):=by
 obtain⟨h,h28,h126,h141,h346,h347,h348⟩:=h;obtain⟨hl1,hl2,hj,hm⟩:=hd;have k141:=K141 h141 d.places;have k126:=K126 h126 d.leases (by omega);have k28:=fun s=>K28 h28 s;have k346:=K346 h346 d.job hj;have kv:=fun a=>K347a h347 1 a;have kr:=fun a b=>K347b h347 0 a b;have ks:∀x∈d.cells,K' Pg 348 [Yh x.mem]=some (.bool (Ya7 x.mem)):=fun x hx=>K348 h348 x.mem (by have:=hm x hx;omega);have ef:∀n,frQ 0 n=YH n:=fun _=>rfl;simp only[ef] at kr;simp only[Yg,Yh,Ys,Yv,eJb,Ybn] at k28 k141 k126 k346 ks;clear hl1 hj hm h28 h126 h141 h346 h347 h348 ef;refine JdB h rfl ?_;clear h;cases c1:Yr d.places with
 |false=>simp only[go_sem,Yaf,Yai, *]
 |true=>
 cases c2:Yu d.leases with
 |false=>simp only[go_sem,Yaf,Yai, *]
 |true=>
 cases c3:decide ((d.cells.length:Int)=3) with
 |false=>simp only[go_sem,Yaf,Yai, *]
 |true=>
 cases c4:decide ((d.lows.length:Int)=3) with
 |false=>simp only[go_sem,Yaf,Yai, *]
 |true=>
 cases c5:decide (d.next<2) with
 |true=>simp only[go_sem,Yaf,Yai, *]
 |false=>
 cases c6:decide (1099511627776<d.next) with
 |true=>simp only[go_sem,Yaf,Yai, *]
 |false=>
 cases c7:Ya d.mark with
 |false=>simp only[go_sem,Yaf,Yai, *]
 |true=>
 cases c8:YV d.job with
 |false=>simp only[go_sem,Yaf,Yai, *]
 |true=>
 cases c9:decide (8<(d.opened.length:Int)) with
 |true=>simp only[go_sem,Yaf,Yai, *]
 |false=>
 have h0:Yai d=true:=by simp only[Yai, *];rfl
 have hq:Yaf d=((d.cells.all Yby&&d.lows.all Ya)&&opQ 0 d.opened):=by simp only[Yaf,h0,GW]
 simp only[go_sem,c1,c2,c3,c4,c5,c6,c7,c8,c9,k141,k126,k28,k346];have hc3:d.cells.length=3:=by have:=Gp c3;omega
 have hl3:d.lows.length=3:=by have:=Gp c4;omega
 rw[hq];clear h0 hq c1 c2 c3 c4 c5 c6 c7 c8 c9 k141 k126 k346;unfold l328_0;refine Jms (fun (i:Nat) S=>i≤3∧S.ρ 1=.lref 1 0∧S.μ 1=some (Y6 d,false)∧S.ρ 57=iz i∧S.μ 6=none∧((d.cells.drop i).all Yby&&(d.lows.drop i).all Ya)=(d.cells.all Yby&&d.lows.all Ya)) (fun i=>3-i) 0 ?_ ?_
 ·simp[go_sem]
 ·intro i S ⟨hi,s1,m1,s57,m6,ho⟩;simp only[go_sem,s57];refine Jmt (fun hlt=>?_) (fun hlt=>?_)
  ·have hlt:i<3:=by have:=Gp hlt;omega
   obtain⟨x,hx,hdx⟩:=Jl8 (l:=d.cells) (i:=i) (by omega);obtain⟨y,hy,hdy⟩:=Jl8 (l:=d.lows) (i:=i) (by omega);have ks:=ks x (List.mem_of_getElem? hx);rw[hdx,hdy,List.all_cons,List.all_cons] at ho;have hinc:IntKind.i64.wrap ((i:Int)+1)=((i+1:Nat):Int):=Yj hlt (by omega);simp only[go_sem,s1,m1,s57,hx,kv];cases q1:frQ 1 x.view with
   |false=>
    simp only[Yby,q1,GK] at ho;simp only[go_sem,←ho]
   |true=>
   cases q2:Ya7 x.mem with
   |false=>
    simp only[Yby,q1,q2,GK,G9] at ho;simp only[go_sem,q2,s1,m1,hx,ks,←ho]
   |true=>
   cases q3:Ya y with
   |false=>
    simp only[q3,GK,G9] at ho;simp only[go_sem,q2,q3,s1,m1,hx,hy,ks,k28,←ho]
   |true=>
    simp only[Yby,q1,q2,q3,GW] at ho;simp only[go_sem,q2,q3,s1,m1,s57,m6,hx,hy,ks,k28];exact⟨i+1,by omega,by omega,by rw[hinc],ho⟩
  ·have hlt:i=3:=by have:=Gk hlt;omega
   subst hlt;have e1:d.cells.drop 3=[]:=List.drop_eq_nil_of_le (by omega);have e2:d.lows.drop 3=[]:=List.drop_eq_nil_of_le (by omega);rw[e1,e2,List.all_nil,List.all_nil] at ho;rw[←ho];simp only[go_sem,s1,m1];unfold l328_1;clear ho s57 hi ks kv;refine Jms (fun (i:Nat) S=>i≤d.opened.length∧S.ρ 4=iz (Yay d.opened i)∧S.μ 6=none∧S.ρ 90=Yb4 d.opened∧S.ρ 91=iz d.opened.length∧S.ρ 92=iz i∧opQ (Yay d.opened i) (d.opened.drop i)=opQ 0 d.opened) (fun i=>d.opened.length-i) 0 ?_ ?_
   ·simp[go_sem,Yay]
   ·intro i S ⟨hi,s4,m6,s90,s91,s92,ho⟩;simp only[go_sem,s91,s92];refine Jmt (fun hlt=>?_) (fun hlt=>?_)
    ·have hlt:=Yi hlt;obtain⟨x,hx,hdx⟩:=Jl8 hlt;have hnext:Yay d.opened (i+1)=x.client:=YcK hx;have hinc:IntKind.i64.wrap ((i:Int)+1)=((i+1:Nat):Int):=Yj hlt (by omega);rw[hdx] at ho;simp only[opQ] at ho;simp only[go_sem,s4,m6,s90,s92,hx];cases q1:decide (x.client≤Yay d.opened i) with
     |true=>
      simp only[q1,Gam,GK] at ho;simp only[go_sem,←ho]
     |false=>
     cases q2:decide (8<x.client) with
     |true=>
      simp only[Ybu,q1,q2,Gam,G5,GK,GW] at ho;simp only[go_sem,q2,←ho]
     |false=>
     cases q3:YH x.req with
     |false=>
      simp only[Ybu,q1,q2,q3,G5,GK,GW] at ho;simp only[go_sem,q2,q3,kr,←ho]
     |true=>
     cases q4:YH x.lease with
     |false=>
      simp only[Ybu,q1,q2,q3,q4,G5,GK,GW] at ho;simp only[go_sem,q2,q3,q4,kr,←ho]
     |true=>
     cases q5:Ya x.at_ with
     |false=>
      simp only[Ybu,q1,q2,q3,q4,q5,G5,GK,GW] at ho;simp only[go_sem,q2,q3,q4,q5,kr,k28,←ho]
     |true=>
     cases q6:decide (x.err<0) with
     |true=>
      simp only[Ybu,q1,q2,q3,q4,q5,q6,Gam,G5,GK,GW] at ho;simp only[go_sem,q2,q3,q4,q5,q6,kr,k28,←ho]
     |false=>
     cases q7:decide (16<x.err) with
     |true=>
      simp only[Ybu,q1,q2,q3,q4,q5,q6,q7,Gam,G5,GK,G9] at ho;simp only[go_sem,q2,q3,q4,q5,q6,q7,kr,k28,←ho]
     |false=>
      simp only[Ybu,q1,q2,q3,q4,q5,q6,q7,G5,GW,Bool.and_true] at ho;simp only[go_sem,q2,q3,q4,q5,q6,q7,s90,s91,s92,kr,k28];exact⟨i+1,by omega,by omega,by rw[hnext],by rw[hinc],by rw[hnext];exact ho⟩
    ·have hlt:=Yo hi hlt;subst hlt;rw[Gag] at ho;simp only[opQ] at ho;simp only[go_sem,←ho]
def YaS (l:List Place) (n:Int):Int:=YaT l (fun p=>decide (p.shard=n)) 0
def H175 (Pg:PgT):Prop:=Pg 175=some (.code F175)∧H185 Pg∧H194 Pg
theorem K175 (h:H175 Pg) (l:List Place) (n:Int) (hl:l.length<2 ^ 60):K' Pg 175 [Ys l,iz n]=some (iz (YaS l n)):=by
 obtain⟨h,h185,h194⟩:=h;have k:=K185 h185 l 194 [.cptr [iz n] 0] (fun p=>decide (p.shard=n)) hl (fun p _=>K194 h194 p n);simp only[Ys] at k;refine JdB h rfl ?_;simp only[go_sem,k,YaS]
theorem Yb5:∀(l:List Place) (p:Place→Bool) (i:Nat),(YaT l p i=-1∧l.find? p=none∧∀x∈l,p x=false)∨(∃j x,YaT l p i=((i+j:Nat):Int)∧l[j]?=some x∧l.find? p=some x∧p x=true∧∀y∈l.take j,p y=false)
 |[],p,i=>.inl ⟨rfl,rfl,by simp⟩
 |a::l,p,i=>by
  by_cases h:p a=true
  ·right;exact⟨0,a,by simp[YaT,h],rfl,by simp[h],h,by simp⟩
  ·have h:p a=false:=by simpa using h
   rcases Yb5 l p (i+1) with ⟨h1,h2,h3⟩|⟨j,x,h1,h2,h3,h4,h5⟩
   ·left;refine⟨by simp[YaT,h,h1],by simp[h,h2],fun y hy=>?_⟩;rcases GM.1 hy with rfl|hy
    ·exact h
    ·exact h3 y hy
   ·right;have e1:i+1+j=i+(j+1):=by omega
    refine⟨j+1,x,by simp only[YaT,h,Gr,GG,h1,e1],by simpa using h2,by simp[h,h3],h4,?_⟩;intro y hy;simp only[List.take_succ_cons] at hy;rcases GM.1 hy with rfl|hy
    ·exact h
    ·exact h5 y hy
def ofA (l:List Place) (n:Int):Option Place:=l.find? fun p=>decide (p.shard=n)
theorem YL (l:List Place) (n:Int):(YaS l n=-1∧ofA l n=none)∨(∃(j:Nat) (x:Place),YaS l n=(j:Int)∧l[j]?=some x∧ofA l n=some x∧x.shard=n∧∀y∈l.take j,y.shard≠n):=by
 rcases Yb5 l (fun p=>decide (p.shard=n)) 0 with ⟨h1,h2,-⟩|⟨j,x,h1,h2,h3,h4,h5⟩
 ·exact .inl ⟨h1,h2⟩
 ·exact .inr ⟨j,x,by simpa [YaS] using h1,h2,h3,by simpa using h4,fun y hy=>by simpa using h5 y hy⟩
def H148 (Pg:PgT):Prop:=Pg 148=some (.code F148)∧H141 Pg∧H175 Pg
theorem K148 (h:H148 Pg) (l:List Place) (n:Int) (hl:l.length<2 ^ 60):K' Pg 148 [Ys l,iz n]=some (eOP (if Yr l then ofA l n else none)):=by
 obtain⟨h,h141,h175⟩:=h;have k141:=K141 h141 l;have k175:=K175 h175 l n hl;simp only[Ys] at k141 k175;refine JdB h rfl ?_;cases c1:Yr l with
 |false=>simp only[go_sem,c1,k141,k175,YR,Option.isSome_none]
 |true=>
  rcases YL l n with ⟨e1,e2⟩|⟨j,x,e1,e2,e3,-⟩
  ·rw[e1] at k175;simp only[go_sem,c1,k141,k175,YR,e2,Option.isSome_none]
  ·rw[e1] at k175;have hj:decide ((j:Int)<0)=false:=Ge (by omega);simp only[go_sem,c1,k141,k175,YR,hj,e2,e3,Option.isSome_some]
@[go_sem] def ePE (x:List Place×Int):V:=.tuple [Ys x.1,iz x.2]
@[go_sem] def eII (x:Int×Int):V:=.tuple [iz x.1,iz x.2]
def readyA (l:List Place) (shard epoch:Int):Int×Int:=
 if Yr l&&YW epoch then (match ofA l shard with|none=>(0,7)|some p=>if epoch≤p.epoch then (0,9) else (YaS l shard,0)) else (0,1)
def H177 (Pg:PgT):Prop:=Pg 177=some (.code F177)∧H141 Pg∧H162 Pg∧H175 Pg
theorem K177 (h:H177 Pg) (l:List Place) (n e:Int) (hl:l.length<2 ^ 60):K' Pg 177 [Ys l,iz n,iz e]=some (eII (readyA l n e)):=by
 obtain⟨h,h141,h162,h175⟩:=h;have k141:=K141 h141 l;have k162:=K162 h162 e;have k175:=K175 h175 l n hl;simp only[Ys] at k141 k175;refine JdB h rfl ?_;cases c1:Yr l with
 |false=>simp only[go_sem,k141,k175,c1,readyA]
 |true=>
 cases c2:YW e with
 |false=>simp only[go_sem,k141,k162,k175,c1,c2,readyA]
 |true=>
 rcases YL l n with ⟨e1,e2⟩|⟨j,x,e1,e2,e3,-⟩
 ·rw[e1] at k175;simp only[go_sem,k141,k162,k175,c1,c2,readyA,e2]
 ·rw[e1] at k175;have hj:decide ((j:Int)<0)=false:=Ge (by omega);cases c3:decide (e≤x.epoch) with
  |true=>
   have c3':=Gp c3;simp only[go_sem,k141,k162,k175,c1,c2,c3',hj,e1,e2,e3,readyA]
  |false=>
   have c3':=Gk c3;simp only[go_sem,k141,k162,k175,c1,c2,c3',hj,e1,e2,e3,readyA]
def YaA (l:List Place) (n to e:Int):List Place×Int:=
 if YaN to then (if (readyA l n e).2=0 then (match ofA l n with
  |none=>([],0)
  |some p=>if p.cell=to then ([],8) else (l.set (YaS l n).toNat ⟨p.span,p.shard,to,e⟩,0)) else ([],(readyA l n e).2)) else ([],1)
theorem YaD {l:List Place} {n e:Int} (h:(readyA l n e).2=0):Yr l=true∧YW e=true∧∃(j:Nat) (x:Place),YaS l n=(j:Int)∧l[j]?=some x∧ofA l n=some x∧x.shard=n∧(∀y∈l.take j,y.shard≠n)∧¬e≤x.epoch∧readyA l n e=((j:Int),0):=by
 simp only[readyA] at h ⊢;split at h
 ·rename_i hc;rw[Gi] at hc;rcases YL l n with ⟨e1,e2⟩|⟨j,x,e1,e2,e3,e4,e5⟩
  ·rw[e2] at h;simp at h
  ·rw[e3] at h;simp only at h;split at h
   ·simp at h
   ·rename_i he;refine⟨hc.1,hc.2,j,x,e1,e2,e3,e4,e5,he,?_⟩;rw[e3];simp only[hc.1,hc.2,e1,he,GG]
    rfl
 ·simp at h
def H179 (Pg:PgT):Prop:=Pg 179=some (.prim (some 0) (cloneQ 5))
theorem K179 (h:H179 Pg) (rows:List (List V)) (hl:rows.length≤lim):K' Pg 179 [.slice 5 rows]=some (.slice 5 rows):=by
 rw[JfU h];simp[cloneQ,hl]
def H159 (Pg:PgT):Prop:=Pg 159=some (.code F159)∧H163 Pg∧H177 Pg∧H179 Pg
theorem K159 (h:H159 Pg) (l:List Place) (n to e:Int) (hl:l.length≤10000):K' Pg 159 [Ys l,iz n,iz to,iz e]=some (ePE (YaA l n to e)):=by
 obtain⟨h,h163,h177,h179⟩:=h;have k163:=K163 h163 to;have k177:=K177 h177 l n e (by omega);have k179:=K179 h179 (l.map ePl) (by simp[lim];omega);simp only[Ys,eII] at k177;refine JdB h rfl ?_;cases c1:YaN to with
 |false=>simp only[go_sem,k163,k177,c1,YaA]
 |true=>
 cases c2:decide ((readyA l n e).2=0) with
 |false=>
  have h2:=Gk c2;simp only[go_sem,k163,k177,c1,YaA,h2]
 |true=>
  have h2:=Gp c2;obtain⟨-,-,j,x,e1,e2,e3,e4,-,e5,e6⟩:=YaD h2;have hj:j<l.length:=(List.getElem?_eq_some_iff.1 e2).1;rw[e6] at k177;simp only at k177;cases c3:decide (x.cell=to) with
  |true=>
   have c3':=Gp c3;simp only[go_sem,k163,k177,c1,YaA,h2,e1,e2,e3,c3']
  |false=>
   have c3':=Gk c3;have hm:YaA l n to e=(l.set j ⟨x.span,x.shard,to,e⟩,0):=by
    simp only[YaA,c1,h2,e1,e3,c3',GF,GG];rfl
   have hs:∀r,((l.map ePl).set j r)[j]?=some r:=fun r=>by simp[hj]
   have hz:∀r,((l.map ePl).set j r).length=l.length:=fun r=>by simp
   have hf:(l.set j ⟨x.span,x.shard,to,e⟩).map ePl=(l.map ePl).set j (ePl ⟨x.span,x.shard,to,e⟩):=by rw[List.map_set]
   simp only[ePl] at hf;rw[hm];simp only[go_sem,k163,k177,k179,c1,e2,c3,hj,hs,hz,hf,List.set_set]
theorem Yds {α:Type} {L:List α} {j:Nat} {x new:α} (h:L[j]?=some x):(L.take (j+1)++new::L.drop (j+1))[j]?=some x:=by
 have hj:=(List.getElem?_eq_some_iff.1 h).1;rw[List.getElem?_append_left (by rw[Gy];omega),List.getElem?_take_of_lt (by omega),h]
theorem Ydt {α:Type} {L:List α} {j:Nat} {x new r:α} (h:L[j]?=some x):(L.take (j+1)++new::L.drop (j+1)).set j r=L.take j++r::new::L.drop (j+1):=by
 have hj:=(List.getElem?_eq_some_iff.1 h).1;rw[Yx h,GQ,List.set_append_right _ _ (by rw[Gy];omega)];have:j-(L.take j).length=0:=by rw[Gy];omega
 rw[this];rfl
theorem YcH {α:Type} {L D:List α} {j:Nat} {r:α} (h:j≤L.length):(L.take j++r::D)[j]?=some r:=by
 have e:(L.take j).length=j:=by rw[Gy];omega
 rw[List.getElem?_append_right (by omega),e];simp
theorem YcI {α:Type} {L D:List α} {j:Nat} {r r':α} (h:j≤L.length):(L.take j++r::D).set j r'=L.take j++r'::D:=by
 have e:(L.take j).length=j:=by rw[Gy];omega
 rw[List.set_append_right _ _ (by omega),e];simp
def Ya4 (l:List Place) (j:Nat) (p:Place) (low high:Span) (o e:Int):List Place:=l.take j++⟨low,p.shard,p.cell,e⟩::⟨high,o,p.cell,e⟩::l.drop (j+1)
def YG (l:List Place) (n:Int) (k:List UInt8) (o e:Int):List Place×Int:=
 if YW o then (if (readyA l n e).2=0 then (match ofA l n with
  |none=>([],0)
  |some p=>if 0≤YaS l o then ([],8) else if l.length=8 then ([],6) else
   if (Y8 p.span k).2.2=0 then (Ya4 l (YaS l n).toNat p (Y8 p.span k).1 (Y8 p.span k).2.1 o e,0) else ([],(Y8 p.span k).2.2)) else ([],(readyA l n e).2)) else ([],1)
def H156 (Pg:PgT):Prop:=Pg 156=some (.code F156)∧H162 Pg∧H175 Pg∧H177 Pg∧H178 Pg∧H179 Pg
theorem K156 (h:H156 Pg) (l:List Place) (n:Int) (k:List UInt8) (o e:Int) (hl:l.length≤10000):K' Pg 156 [Ys l,iz n,.str k,iz o,iz e]=some (ePE (YG l n k o e)):=by
 obtain⟨h,h162,h175,h177,h178,h179⟩:=h;have k162:=K162 h162 o;have k175:=K175 h175 l o (by omega);have k177:=K177 h177 l n e (by omega);have k178:=fun s=>K178 h178 s k;have k179:=K179 h179 (l.map ePl) (by simp[lim];omega);simp only[Ys,eII] at k177 k175;simp only[Yw,Ydr] at k178;refine JdB h rfl ?_;cases c1:YW o with
 |false=>simp only[go_sem,k162,k177,c1,YG]
 |true=>
 cases c2:decide ((readyA l n e).2=0) with
 |false=>
  have h2:=Gk c2;simp only[go_sem,k162,k177,c1,YG,h2]
 |true=>
  have h2:=Gp c2;obtain⟨-,-,j,x,e1,e2,e3,e4,-,e5,e6⟩:=YaD h2;have hj:j<l.length:=(List.getElem?_eq_some_iff.1 e2).1;rw[e6] at k177;simp only at k177;cases c3:decide (0≤YaS l o) with
  |true=>
   have hm:YG l n k o e=([],8):=by
    simp only[YG,c1,h2,e3,Gp c3,GF]
   rw[hm];simp only[go_sem,k162,k175,k177,c1,c3]
  |false=>
  have c3':=Gk c3;cases c4:decide ((l.length:Int)=8) with
  |true=>
   have c4':l.length=8:=by have:=Gp c4;omega
   have hm:YG l n k o e=([],6):=by
    simp only[YG,c1,h2,e3,c3',c4',GF,GG]
   rw[hm];simp only[go_sem,k162,k175,k177,c1,c3,c4]
  |false=>
  have c4':¬l.length=8:=by have:=Gk c4;omega
  cases c5:decide ((Y8 x.span k).2.2=0) with
  |false=>
   have hm:YG l n k o e=([],(Y8 x.span k).2.2):=by
    simp only[YG,c1,h2,e3,c3',c4',Gk c5,GF,GG]
   rw[hm];simp only[go_sem,k162,k175,k177,k178,c1,e2,c3,c4,c5]
  |true=>
   have hm:YG l n k o e=(Ya4 l j x (Y8 x.span k).1 (Y8 x.span k).2.1 o e,0):=by
    simp only[YG,c1,h2,e1,e3,c3',c4',Gp c5,GF,GG];rfl
   rw[hm];have hlim:l.length+1≤lim:=by simp only[lim];omega
   have hinc:IntKind.i64.wrap ((j:Int)+1)=((j+1:Nat):Int):=Yj hj (by omega);have hj1:j+1≤l.length:=hj;simp only[go_sem,k162,k175,k177,k178,k179,c1,e2,c3,c4,c5,hinc,hlim,hj,hj1];have hx:(l.map ePl)[j]?=some (ePl x):=by simp[e2]
   have hjl:j≤(l.map ePl).length:=by simp;omega
   have q1:∀new,((l.map ePl).take (j+1)++new::(l.map ePl).drop (j+1))[j]?=some (ePl x):=fun new=>Yds hx;have q2:∀new r,((l.map ePl).take (j+1)++new::(l.map ePl).drop (j+1)).set j r=(l.map ePl).take j++r::new::(l.map ePl).drop (j+1):=fun new r=>Ydt hx;have q3:∀r D,((l.map ePl).take j++r::D)[j]?=some r:=fun r D=>YcH hjl;have q4:∀r r' D,((l.map ePl).take j++r::D).set j r'=(l.map ePl).take j++r'::D:=fun r r' D=>YcI hjl;have q5:(List.take (j+1) (List.map ePl l)).length+((List.drop (j+1) (List.map ePl l)).length+1)=l.length+1:=by
    rw[Gy,GI,Gl];omega
   have q6:(List.take j (List.map ePl l)).length+((List.drop (j+1) (List.map ePl l)).length+1+1)=l.length+1:=by
    rw[Gy,GI,Gl];omega
   have q7:(Ya4 l j x (Y8 x.span k).1 (Y8 x.span k).2.1 o e).map ePl=(l.map ePl).take j++ePl ⟨(Y8 x.span k).1,x.shard,x.cell,e⟩::ePl ⟨(Y8 x.span k).2.1,o,x.cell,e⟩::(l.map ePl).drop (j+1):=by
    simp[Ya4]
   simp only[ePl] at q1 q7;rw[q7];have hj2:j<l.length+1:=by omega
   simp only[go_sem,q1,q2,q3,q4,q5,q6,hj2]
theorem Ydo {α:Type} {L D:List α} {j:Nat} {x:α} (h:L[j]?=some x):(L.take (j+1)++D)[j]?=some x:=by
 have hj:=(List.getElem?_eq_some_iff.1 h).1;rw[List.getElem?_append_left (by rw[Gy];omega),List.getElem?_take_of_lt (by omega),h]
theorem Ydp {α:Type} {L D:List α} {j:Nat} {x r:α} (h:L[j]?=some x):(L.take (j+1)++D).set j r=L.take j++r::D:=by
 have hj:=(List.getElem?_eq_some_iff.1 h).1;rw[Yx h,GQ,List.set_append_right _ _ (by rw[Gy];omega)];have:j-(L.take j).length=0:=by rw[Gy];omega
 rw[this];rfl
def Ybh (l:List Place) (j:Nat) (p q:Place) (e:Int):List Place:=l.take j++⟨⟨p.span.lo,q.span.hi⟩,p.shard,p.cell,e⟩::l.drop (j+2)
def YT (l:List Place) (n o e:Int):List Place×Int:=
 if YW o then (if (readyA l n e).2=0 then (match ofA l n with
  |none=>([],0)
  |some p=>match ofA l o with
   |none=>([],7)
   |some q=>if YaS l o=YaS l n+1∧p.cell=q.cell∧¬e≤q.epoch then (Ybh l (YaS l n).toNat p q e,0) else ([],9)) else ([],(readyA l n e).2)) else ([],1)
def H157 (Pg:PgT):Prop:=Pg 157=some (.code F157)∧H162 Pg∧H175 Pg∧H177 Pg∧H179 Pg
theorem K157 (h:H157 Pg) (l:List Place) (n o e:Int) (hl:l.length≤10000):K' Pg 157 [Ys l,iz n,iz o,iz e]=some (ePE (YT l n o e)):=by
 obtain⟨h,h162,h175,h177,h179⟩:=h;have k162:=K162 h162 o;have k175:=K175 h175 l o (by omega);have k177:=K177 h177 l n e (by omega);have k179:=K179 h179 (l.map ePl) (by simp[lim];omega);simp only[Ys,eII] at k177 k175;refine JdB h rfl ?_;cases c1:YW o with
 |false=>simp only[go_sem,k162,k175,k177,c1,YT]
 |true=>
 cases c2:decide ((readyA l n e).2=0) with
 |false=>
  have h2:=Gk c2;simp only[go_sem,k162,k175,k177,c1,YT,h2]
 |true=>
  have h2:=Gp c2;obtain⟨-,-,j,x,e1,e2,e3,e4,-,e5,e6⟩:=YaD h2;have hj:j<l.length:=(List.getElem?_eq_some_iff.1 e2).1;rw[e6] at k177;simp only at k177;rcases YL l o with ⟨d1,d2⟩|⟨i,y,d1,d2,d3,d4,-⟩
  ·rw[d1] at k175;have hm:YT l n o e=([],7):=by simp only[YT,c1,h2,e3,d2,GF]
   rw[hm];simp only[go_sem,k162,k175,k177,c1]
  ·rw[d1] at k175;have hinc:IntKind.i64.wrap ((j:Int)+1)=(j:Int)+1:=by rw[Yj hj (by omega)];omega
   have hi0:decide ((i:Int)<0)=false:=Ge (by omega);have hil:i<l.length:=(List.getElem?_eq_some_iff.1 d2).1;have hc:∀b,(decide ((i:Int)=(j:Int)+1)&&(decide (x.cell=y.cell)&&!decide (e≤y.epoch)))=b→YT l n o e=if b then (Ybh l j x y e,0) else ([],9):=fun b hb=>by
    simp only[YT,c1,h2,e3,d3,d1,e1,GF];have:((i:Int)=(j:Int)+1∧x.cell=y.cell∧¬e≤y.epoch)↔b=true:=by
     rw[←hb];simp
    by_cases hbt:b=true
    ·rw[GC (this.2 hbt),GC hbt];rfl
    ·rw[GA (fun h=>hbt (this.1 h)),GA hbt]
   cases f1:decide ((i:Int)=(j:Int)+1) with
   |false=>
    rw[hc false (by rw[f1];rfl)];simp only[go_sem,k162,k175,k177,c1,hi0,hinc,f1]
   |true=>
   cases f2:decide (x.cell=y.cell) with
   |false=>
    rw[hc false (by rw[f1,f2];rfl)];simp only[go_sem,k162,k175,k177,c1,e2,d2,hi0,hinc,f1,f2]
   |true=>
   cases f3:decide (e≤y.epoch) with
   |true=>
    rw[hc false (by rw[f1,f2,f3];rfl)];simp only[go_sem,k162,k175,k177,c1,e2,d2,hi0,hinc,f1,f2,f3]
   |false=>
    rw[hc true (by rw[f1,f2,f3];rfl)];obtain rfl:i=j+1:=by have:=Gp f1;omega
    have hinc2:IntKind.i64.wrap (((j+1:Nat):Int)+1)=((j+1+1:Nat):Int):=Yj hil (by omega);have hlim:l.length≤lim:=by simp only[lim];omega
    have hx:(l.map ePl)[j]?=some (ePl x):=by simp[e2]
    have hjl:j≤(l.map ePl).length:=by simp;omega
    have q1:∀D,((l.map ePl).take (j+1)++D)[j]?=some (ePl x):=fun D=>Ydo hx;have q2:∀r D,((l.map ePl).take (j+1)++D).set j r=(l.map ePl).take j++r::D:=fun r D=>Ydp hx;have q3:∀r D,((l.map ePl).take j++r::D)[j]?=some r:=fun r D=>YcH hjl;have q4:∀r r' D,((l.map ePl).take j++r::D).set j r'=(l.map ePl).take j++r'::D:=fun r r' D=>YcI hjl;have q5:(List.take (j+1) (List.map ePl l)).length+(List.drop (j+1+1) (List.map ePl l)).length=l.length-1:=by
     rw[Gy,GI,Gl];omega
    have q6:(List.take j (List.map ePl l)).length+((List.drop (j+1+1) (List.map ePl l)).length+1)=l.length-1:=by
     rw[Gy,GI,Gl];omega
    have q7:(Ybh l j x y e).map ePl=(l.map ePl).take j++ePl ⟨⟨x.span.lo,y.span.hi⟩,x.shard,x.cell,e⟩::(l.map ePl).drop (j+1+1):=by
     simp[Ybh]
    have hj2:j<l.length-1:=by omega
    have hle1:j+1≤j+1+1:=by omega
    have hle2:j+1+1≤l.length:=hil;simp only[ePl] at q1 q7;simp only[go_sem,k162,k175,k177,k179,c1,e2,d2,hi0,hinc,hinc2,f1,f2,f3,hlim,hle1,hle2,q1,q2,q3,q4,q5,q6,q7,hj2]
theorem Ybx:∀{l:List Place},gR l=true↔(∀p∈l,YaV p=true)∧l.Pairwise (fun p q=>p.shard≠q.shard)
 |[]=>by simp[gR]
 |p::l=>by
  simp only[gR,Gi,Ybx (l:=l),Gac,GM,forall_eq_or_imp,GJ,List.any_eq_false,Gx];constructor
  ·intro⟨h1,h2,h3,h4⟩;exact⟨⟨h1,h3⟩,fun q hq e=>h2 q hq e.symm,h4⟩
  ·intro⟨⟨h1,h3⟩,h2,h4⟩;exact⟨h1,fun q hq e=>h2 q hq e.symm,h3,h4⟩
def NV (n:Int):Prop:=n.toNat<2 ^ 63∧((n.toNat:Nat):Int)=n
theorem nv {n:Int} (h0:0≤n) (h1:n≤1099511627776):NV n:=⟨by omega,by omega⟩
theorem Ya9 {m n:Int} (hm:0≤m) (h:frQ m n=true):NV n:=by
 simp only[frQ,GJ,Bool.or_eq_false_iff,GN] at h;exact nv (by omega) (by omega)
def nB (n:Int):List UInt8:=putB n.toNat
theorem YdH (n:Int) (_:NV n):1≤(nB n).length:=YY _
abbrev LV {α:Type} (P:α→Prop) (l:List α):Prop:=l.length<2 ^ 63∧∀a∈l,P a
abbrev TV (t:List UInt8):Prop:=t.length<2 ^ 63
def mkPl (p:List UInt8×List UInt8×Int×Int×Int):Place:=⟨⟨p.1,p.2.1⟩,p.2.2.1,p.2.2.2.1,p.2.2.2.2⟩
def YeS (x:Place):List UInt8×List UInt8×Int×Int×Int:=(x.span.lo,x.span.hi,x.shard,x.cell,x.epoch)
def plB (x:Place):List UInt8:=Yt x.span.lo++(Yt x.span.hi++(nB x.shard++(nB x.cell++nB x.epoch)))
def PlV (x:Place):Prop:=(TV x.span.lo∧TV x.span.hi∧NV x.shard∧NV x.cell∧NV x.epoch)∧mkPl (YeS x)=x
theorem Ycg (x:Place) (_:PlV x):1≤(plB x).length:=by
 have:=YaM (t:=x.span.lo);simp only[plB,Gc];omega
def mkIn (p:Int×List Int×Bool):Inf:=⟨p.1,p.2.1,p.2.2⟩
def YeN (x:Inf):Int×List Int×Bool:=(x.view,x.mem,x.whole)
def inB (x:Inf):List UInt8:=nB x.view++(YP nB x.mem++Yq x.whole)
def InV (x:Inf):Prop:=(NV x.view∧LV NV x.mem∧True)∧mkIn (YeN x)=x
theorem Yc2 (x:Inf) (_:InV x):1≤(inB x).length:=by
 have:=YY x.view.toNat;simp only[inB,nB,Gc];omega
def mkLe (p:Int×Int×Stamp):Lse:=⟨p.1,p.2.1,p.2.2⟩
def YeP (x:Lse):Int×Int×Stamp:=(x.id,x.lft,x.at_)
def leB (x:Lse):List UInt8:=nB x.id++(nB x.lft++stB x.at_)
def LeV (x:Lse):Prop:=(NV x.id∧NV x.lft∧Ya x.at_=true)∧mkLe (YeP x)=x
theorem Yc7 (x:Lse) (_:LeV x):1≤(leB x).length:=by
 have:=YY x.id.toNat;simp only[leB,nB,Gc];omega
abbrev OrT:=Int×Int×Int×Stamp×Int
def YdV (p:OrT):ORw:=⟨p.1,p.2.1,p.2.2.1,p.2.2.2.1,p.2.2.2.2⟩
def YeR (x:ORw):OrT:=(x.client,x.req,x.lease,x.at_,x.err)
def orB (x:ORw):List UInt8:=nB x.client++(nB x.req++(nB x.lease++(stB x.at_++nB x.err)))
def OrV (x:ORw):Prop:=(NV x.client∧NV x.req∧NV x.lease∧Ya x.at_=true∧NV x.err)∧YdV (YeR x)=x
theorem Ydb (x:ORw) (_:OrV x):1≤(orB x).length:=by
 have:=YY x.client.toNat;simp only[orB,nB,Gc];omega
abbrev JbT:=Int×Int×Int×Int×Int×Int×Int×Int×List UInt8×List (List UInt8)×Int×Int×Int×List UInt8×List UInt8×List Int×Stamp×List Int
def YdT (p:JbT):Jb:=
 ⟨p.1,p.2.1,p.2.2.1,p.2.2.2.1,p.2.2.2.2.1,p.2.2.2.2.2.1,p.2.2.2.2.2.2.1,p.2.2.2.2.2.2.2.1,p.2.2.2.2.2.2.2.2.1,p.2.2.2.2.2.2.2.2.2.1,p.2.2.2.2.2.2.2.2.2.2.1,p.2.2.2.2.2.2.2.2.2.2.2.1,p.2.2.2.2.2.2.2.2.2.2.2.2.1,⟨p.2.2.2.2.2.2.2.2.2.2.2.2.2.1,p.2.2.2.2.2.2.2.2.2.2.2.2.2.2.1⟩,p.2.2.2.2.2.2.2.2.2.2.2.2.2.2.2.1,p.2.2.2.2.2.2.2.2.2.2.2.2.2.2.2.2.1,p.2.2.2.2.2.2.2.2.2.2.2.2.2.2.2.2.2⟩
def YeO (x:Jb):JbT:=(x.kind,x.step,x.id,x.shard,x.other,x.cell,x.to,x.epoch,x.key,x.parts,x.of_,x.client,x.req,x.span.lo,x.span.hi,x.wait,x.at_,x.mem)
def jbB (x:Jb):List UInt8:=nB x.kind++(nB x.step++(nB x.id++(nB x.shard++(nB x.other++(nB x.cell++(nB x.to++(nB x.epoch++(Yt x.key++(YP Yt x.parts++(nB x.of_++(nB x.client++(nB x.req++(Yt x.span.lo++(Yt x.span.hi++(YP nB x.wait++(stB x.at_++YP nB x.mem))))))))))))))))
def JbV (x:Jb):Prop:=(NV x.kind∧NV x.step∧NV x.id∧NV x.shard∧NV x.other∧NV x.cell∧NV x.to∧NV x.epoch∧TV x.key∧LV TV x.parts∧NV x.of_∧NV x.client∧NV x.req∧TV x.span.lo∧TV x.span.hi∧LV NV x.wait∧Ya x.at_=true∧LV NV x.mem)∧YdT (YeO x)=x
abbrev DrT:=List Place×List Inf×Int×List Lse×List Stamp×Stamp×Jb×List ORw
def YdS (p:DrT):Drc:=⟨p.1,p.2.1,p.2.2.1,p.2.2.2.1,p.2.2.2.2.1,p.2.2.2.2.2.1,p.2.2.2.2.2.2.1,p.2.2.2.2.2.2.2⟩
def YeM (x:Drc):DrT:=(x.places,x.cells,x.next,x.leases,x.lows,x.mark,x.job,x.opened)
def drB (x:Drc):List UInt8:=YP plB x.places++(YP inB x.cells++(nB x.next++(YP leB x.leases++(YP stB x.lows++(stB x.mark++(jbB x.job++YP orB x.opened))))))
def DrV (x:Drc):Prop:=(LV PlV x.places∧LV InV x.cells∧NV x.next∧LV LeV x.leases∧LV (fun s=>Ya s=true) x.lows∧Ya x.mark=true∧JbV x.job∧LV OrV x.opened)∧YdS (YeM x)=x
theorem Cod.whole {α:Type} {R:Rd→α×Rd} {W:α→List UInt8} {P:α→Prop} {q:α→Bool} (h:Cod R W P) {t:List UInt8} {c:α} :
  (if (R (t,false)).2=([],false)∧q (R (t,false)).1=true then some (R (t,false)).1 else none)=some c↔t=W c∧P c∧q c=true:=by
 constructor
 ·intro hc
  split at hc
  ·rename_i h0
   simp only[Ga] at hc
   obtain⟨h1,h2⟩:=h0
   obtain⟨g1,g2⟩:=h.get (s:=t) (r:=[]) (a:=c) (Prod.ext hc h1)
   rw[hc] at h2
   exact⟨by rw[g1];simp,g2,h2⟩
  ·cases hc
 ·rintro⟨rfl,hp,hq⟩
  have:=h.put (r:=[]) hp
  rw[Gz] at this
  rw[this,GC ⟨rfl,hq⟩]
structure DrL (d:Drc):Prop where
 pl:∀p∈d.places,p.span.lo.length≤2 ^ 20∧p.span.hi.length≤2 ^ 20
 key:d.job.key.length≤2 ^ 20
 parts:d.job.parts.length≤2 ^ 20∧∀t∈d.job.parts,t.length≤2 ^ 20
 span:d.job.span.lo.length≤2 ^ 20∧d.job.span.hi.length≤2 ^ 20
 wait:d.job.wait.length≤2 ^ 20
 mem:d.job.mem.length≤2 ^ 20
 cell:∀c∈d.cells,c.mem.length≤2 ^ 20
theorem Ydf {l:List Int} (h:Ya7 l=true):∀n∈l,NV n:=fun n hn=>by
 have:=(Gp h).2.1 n hn;exact nv (by omega) (by omega)
theorem YcJ:∀{l:List ORw} {p:Int} {x:ORw},opQ p l=true→x∈l→p<x.client∧Ybu x=true
 |r::l,p,x,h,hx=>by
  simp only[opQ,Gi,GJ,GN] at h;rcases GM.1 hx with rfl|hx
  ·exact⟨by omega,h.2.1⟩
  ·have:=YcJ h.2.2 hx;exact⟨by omega,this.2⟩
theorem YdF {d:Drc} (h:Yaf d=true) (hl:DrL d):DrV d:=by
 simp only[Yaf,Yai,Yr,Gi,Gx,GJ,GN,Gv] at h;obtain⟨⟨⟨p1,p2,p3⟩,l1,c1,o1,n1,n2,m1,j1,q1⟩,⟨c2,o2⟩,q2⟩:=h;obtain⟨l2,l3⟩:=Yap l1;have hp:=(Ybx.1 p2).1;have jb:JbV d.job:=by
  simp only[YV,YJ,YaQ,Ybw,Gi,Bool.or_eq_true,Gx,GJ,GN,Gv] at j1;obtain⟨⟨a1,a2,a3,a4,⟨b1,b2,b3,b4,b5,b6,b7⟩,a5,a6⟩,⟨e1,e2,e3,e4,e5⟩,-⟩:=j1;have z:(0:Int)≤0:=Int.le_refl 0;have me:∀n∈d.job.mem,NV n:=fun n hn=>by
   rcases e5 with e5|e5
   ·rw[e5] at hn;cases hn
   ·exact Ydf e5 n hn
  exact⟨⟨nv (by omega) (by omega),nv (by omega) (by omega),Ya9 z b1,Ya9 z b2,Ya9 z b3,nv (by omega) (by omega),nv (by omega) (by omega),Ya9 z b4,by have:=hl.key;show _<_;omega,⟨by have:=hl.parts.1;omega,fun t ht=>by have:=hl.parts.2 t ht;show _<_;omega⟩,
   Ya9 z b5,Ya9 z b6,Ya9 z b7,by have:=hl.span.1;show _<_;omega,by have:=hl.span.2;show _<_;omega,⟨by have:=hl.wait;omega,fun n hn=>Ya9 z (a5 n hn)⟩,a6,⟨by have:=hl.mem;omega,me⟩⟩,rfl⟩
 refine⟨⟨⟨by omega,fun p hm=>?_⟩,⟨by omega,fun c hm=>?_⟩,nv (by omega) (by omega),⟨by omega,fun l hm=>?_⟩,⟨by omega,o2⟩,m1,jb,⟨by omega,fun r hm=>?_⟩⟩,rfl⟩
 ·have h0:=hp p hm;simp only[YaV,YW,YaN,Gi,Gx] at h0;have:=hl.pl p hm;exact⟨⟨by show _<_;omega,by show _<_;omega,nv (by omega) (by omega),nv (by omega) (by omega),nv (by omega) (by omega)⟩,rfl⟩
 ·have h0:=c2 c hm;simp only[Yby,Gi] at h0;exact⟨⟨Ya9 (by omega) h0.1,⟨by have:=hl.cell c hm;omega,Ydf h0.2⟩,Gm⟩,rfl⟩
 ·have h0:=Ycq l2 hm;simp only[Yaw,Gi,Gx] at h0;have:=YbV l2 hm;exact⟨⟨nv (by omega) (by omega),nv (by omega) (by omega),h0.2.2.2⟩,rfl⟩
 ·obtain⟨h0,h1⟩:=YcJ q2 hm;simp only[Ybu,Gi,GJ,GN] at h1;have z:(0:Int)≤0:=Int.le_refl 0;exact⟨⟨nv (by omega) (by omega),Ya9 z h1.2.1,Ya9 z h1.2.2.1,h1.2.2.2.1,nv (by omega) (by omega)⟩,rfl⟩
attribute [go_sem] YdP YeW YeX
def shP (s:Shd) (e d:V):List V:=[iz s.id,iz s.epoch,.str s.span.lo,.str s.span.hi,iz s.phase,e,iz s.mark.wall,iz s.mark.tick,iz s.mark.node,iz s.top.wall,iz s.top.tick,iz s.top.node,d,iz s.hold,iz s.seen,iz s.move,iz s.closed]
def zSh:List V:=[.int .i64 0,.int .i64 0,.str [],.str [],.int .i64 0,.slice 2 [],.int .i64 0,.int .i64 0,.int .i64 0,.int .i64 0,.int .i64 0,.int .i64 0,.slice 11 [],.int .i64 0,.int .i64 0,.int .i64 0,.int .i64 0]
theorem scrub_nil {Wa:List Nat} {s z n:Nat} (h:Wa.contains s=false):JA Wa (nilOr s z n)=nilOr s z n:=by
 unfold nilOr;split
 ·rfl
 ·simp only[JA,h,Gr,GG]
theorem YaY {S:St} {v:Nat} {Wv Wa:List Nat} {x:Shd} {s z n s' z' n':Nat} (hm:S.μ v=some (shP x (nilOr s z n) (nilOr s' z' n'),false)) (hv:Wv.contains v=false) (h:Wa.contains s=false) (h':Wa.contains s'=false) :
  (S.head [] [] Wv Wa).μ v=some (shP x (nilOr s z n) (nilOr s' z' n'),false):=by
 show (if Wv.contains v then none else (S.μ v).map _)=_
 rw[hv,hm]
 simp only[Gr,GG,Option.map_some]
 have:(shP x (nilOr s z n) (nilOr s' z' n')).map (JA Wa)=shP x (nilOr s z n) (nilOr s' z' n'):=by
  simp only[shP,Gq,Gt,scrub_nil h,scrub_nil h']
  rfl
 rw[this]
 cases Wa.isEmpty<;>rfl
theorem Y7 {S:St} {Wv Wa:List Nat} {x:Nat} (h:Wa.contains x=false):(S.head [] [] Wv Wa).A x=S.A x:=by
 show (if Wa.contains x then none else S.A x)=S.A x
 rw[h];rfl
structure B436 (S:St) (y:Rd) (sh:Shd) (es:List Entr) (ds:List Done):Prop where
 r0:S.ρ 0=.lref 0 0
 r2:S.ρ 2=.lref 2 0
 r3:S.ρ 3=.lref 3 0
 m0:S.μ 0=some (eRd y,false)
 m2:S.μ 2=some (zSh,false)
 m3:S.μ 3=some (shP sh (nilOr 97 2 es.length) (nilOr 139 11 ds.length),false)
 m11:S.μ 11=none
 a97:S.A 97=YaO 2 (es.map YE) es.length
 a139:S.A 139=YaO 11 (ds.map Yy) ds.length
theorem B436.head {S:St} {y:Rd} {sh:Shd} {es:List Entr} {ds:List Done} {Wv Wa:List Nat} (h:B436 S y sh es ds) (h0:Wv.contains 0=false) (h2:Wv.contains 2=false) (h3:Wv.contains 3=false) (h97:Wa.contains 97=false) (h139:Wa.contains 139=false) :
  B436 (S.head [] [] Wv Wa) y sh es ds:=
 ⟨Jmc h.r0 (by simp only[stay,h0];rfl),Jmc h.r2 (by simp only[stay,h2];rfl),Jmc h.r3 (by simp only[stay,h3];rfl),Jmb h.m0 rfl h0,Jmb h.m2 rfl h2,YaY h.m3 h3 h97 h139,Jma (.inl h.m11),(Y7 h97).trans h.a97,(Y7 h139).trans h.a139⟩
structure HW (S:St) (v:Nat) (b:List UInt8) (a:Nat):Prop where
 m:S.μ v=some ([.own a 1 b.length],false)
 a:S.A a=some (1,b.map rowB,.live)
def YaF (b:List UInt8):List V:=[.tuple [.slice 1 (b.map rowB)]]
theorem Yde {args:List V} {b:List UInt8}:startR args 0 (YaF b)=some ⟨fun i=>if i=0 then .lref 0 0 else (args[i]?).getD .undef,upd (fun _=>none) 0 (some ([.own 9000 1 b.length],false)),upd (fun _=>none) 9000 (some (1,b.map rowB,.live))⟩:=by
 unfold startR YaF;simp only[Jew,JhH,JlT,JfK,Option.bind_some,Gl]
theorem YcE {A:AA} {b:List UInt8} {a:Nat} (h:A a=some (1,b.map rowB,.live)):Jaj [.own a 1 b.length] A=some (YaF b,upd A a (some (1,[],.dead))):=by
 simp only[Jec,Je5,JgE,h,Jli,Gl,GF,Option.bind_some]
 rfl
structure SWr (S:St) (rest:List V) (b:List UInt8):Prop where
 r0:S.ρ 0=.lref 0 0
 r:∀i,S.ρ (i+1)=(rest[i]?).getD .undef
 h:HW S 0 b 9000
 m:∀i,(i == 0)=false→S.μ i=none
 a:∀x,x≠9000→S.A x=none
theorem YbK {f:Nat} {F:F} {rest:List V} {b b':List UInt8} (hF:Pg f=some (.codeR F 0)) (hl:rest.length+1=F.np) (hrs:F.res=[])
  (h:∀S,SWr S rest b→Wp (K' Pg) F.body S fun ex S'=>(ex=.norm∨ex=.ret)∧∃a,HW S' 0 b' a) :
  K' Pg f (.tuple (.lref 0 0::YaF b)::rest)=some (.tuple [.tuple [],.tuple (YaF b')]):=by
 have hm:∀i,(i == 0)=false→(upd (fun _=>none) 0 (some ([V.own 9000 1 b.length],false)):Nat→Option (List V×Bool)) i=none:=fun i hi=>JhK hi
 refine Qa hF (by simpa using hl) rfl Yde ((h _ ⟨rfl,fun i=>rfl,⟨by simp[upd],by simp[upd]⟩,hm,fun x hx=>by simp only[upd];rw[GA hx]⟩).mono fun ex S' hq=>⟨hq.1,?_⟩)
 obtain⟨a,h1⟩:=hq.2
 unfold JaK
 rw[hrs]
 simp only[Js,Option.bind_some,h1.m,YcE h1.a]
 rfl
theorem HW.head {S:St} {v:Nat} {b:List UInt8} {a h1:Nat} {Wv Wa:List Nat} (hT:HW S v b a) (hv:Wv.contains v=false) (hw:Wa.contains h1=false) :
  HW (S.head [] [v,0,h1] Wv Wa) v b h1∧(∀x,Wa.contains x=true→(S.head [] [v,0,h1] Wv Wa).A x=none)∧(∀x,x≠a→x≠h1→S.A x=none→(S.head [] [v,0,h1] Wv Wa).A x=none):=by
 have e1:S.swp1 v 0 h1=S.ren a h1:=by rw[Jj3,hT.m,JlO];rfl
 have eh:S.head [] [v,0,h1] Wv Wa=(S.ren a h1).scrub [] Wv Wa:=by rw[Jl9,e1];rfl
 rw[eh]
 refine⟨⟨?_,?_⟩,fun x hx=>?_,fun x h2 h3 h0=>?_⟩
 ·show (if Wv.contains v then none else ((S.μ v).map _).map _)=_
  rw[hv,hT.m]
  have:swp a h1 a=h1:=JlQ
  simp only[Gr,GG,Option.map_some,Gq,Gt,JP,this,JA,hw]
  cases Wa.isEmpty<;>rfl
 ·show (if Wa.contains h1 then none else S.A (swp a h1 h1))=_
  rw[hw,JlS];exact hT.a
 ·show (if Wa.contains x then none else _)=_
  rw[hx];rfl
 ·show (if Wa.contains x then none else S.A (swp a h1 x))=_
  split
  ·rfl
  ·rw[Yae h2 h3];exact h0
theorem Yb6 (l:List UInt8):(l.map fun b=>[V.int .u8 (b.toNat:Int)])=l.map rowB:=rfl
def H422 (Pg:PgT):Prop:=Pg 422=some (.codeR F422 0)∧H456 Pg
theorem K422g {f:Nat} (h:Pg f=some (.codeR F422 0)) (h456:H456 Pg) (b:List UInt8) (l:List Int) (hl:∀n∈l,0≤n∧n<2 ^ 63) (hb:b.length+9*l.length≤2 ^ 29) :
  K' Pg f [.tuple (.lref 0 0::YaF b),Yh l]=some (.tuple [.tuple [],.tuple (YaF (b++Yc l))]):=by
 refine YbK h rfl rfl fun S0 ⟨r0,r,hT0,m0,a0⟩=>?_
 have r1:=r 0
 simp only[Jlh,Option.getD_some] at r1
 simp only[go_sem] at r1
 simp only[F422,c422,go_sem,r1,Gl]
 unfold l422_0
 refine Jms (fun (i:Nat) S=>i≤l.length∧S.ρ 0=.lref 0 0∧S.ρ 8=Yh l∧S.ρ 9=iz l.length∧S.ρ 10=iz i∧HW S 0 (b++Yc (l.take i)) 9000) (fun i=>l.length-i) 0 ?_ ?_
 ·exact⟨Gae _,Jmc (by simp only[go_sem,r0]) rfl,Jmc (by simp only[go_sem]) rfl,Jmc (by simp only[go_sem]) rfl,Jmc (by simp only[go_sem]) rfl,(HW.head (a:=9000) (h1:=9000) ⟨by simp only[go_sem,hT0.m]<;>simp[Yc],by simp only[hT0.a]<;>simp[Yc]⟩ rfl rfl).1⟩
 ·intro i S ⟨hi,s0,s8,s9,s10,hT⟩
  have hm:=hT.m
  have hA:=hT.a
  cases c1:decide ((i:Int)<(l.length:Int)) with
  |false=>
   have hil:i=l.length:=by have:=Gk c1;omega
   rw[hil,GP] at hT
   simp only[go_sem,s9,s10,c1]
   exact⟨9000,hT.m,hT.a⟩
  |true=>
   have hlt:=Yi c1
   obtain⟨n,hn,-⟩:=Jl8 hlt
   have hinc:=inc64q (i:=i) (by omega)
   obtain⟨n0,n1⟩:=hl n (List.mem_of_getElem? hn)
   have k:K' Pg 456 [iz n]=some (.tuple [.str (putB n.toNat),iz 0]):=by
    have:=K456 h456 n.toNat (by omega);rw[show ((n.toNat:Nat):Int)=n by omega] at this;exact this
   have htk:l.take (i+1)=l.take i++[n]:=by rw[GT,hn];rfl
   have hbl:=Yah (l:=l.take i) fun m hm=>by have:=hl m (List.mem_of_mem_take hm);omega
   rw[Gy] at hbl
   have hp:=YC.2 (show n.toNat<2 ^ 63 by omega)
   have hlim:(b++Yc (l.take i)).length+(putB n.toNat).length≤lim:=by rw[Gc];unfold lim;omega
   generalize hg:b++Yc (l.take i)=g at *
   have hfull:b++Yc (l.take (i+1))=g++putB n.toNat:=by rw[htk,Ycf,←GQ,hg]
   simp only[go_sem,s0,s8,s9,s10,c1,hn,k,hinc,hm,hA,hlim,Gl]
   refine⟨i+1,by omega,by omega,Jmc (by simp only[go_sem,s0]) rfl,Jmc (by simp only[go_sem,s8]) rfl,Jmc (by simp only[go_sem,s9]) rfl,Jmc (by simp only[go_sem]) rfl,(HW.head (a:=9000) (h1:=9000) ⟨?_,?_⟩ rfl rfl).1⟩
   ·rw[hfull];simp only[go_sem,Gc]
   ·rw[hfull];simp only[go_sem,Gab]<;>rfl
def YcD (l:List (List UInt8)):V:=.slice 1 (l.map fun t=>[.str t])
attribute [go_sem] YcD
def Ye (l:List (List UInt8)):List UInt8:=l.flatMap Yt
theorem Yct {l:List (List UInt8)} {n:List UInt8}:Ye (l++[n])=Ye l++Yt n:=by simp[Ye]
def H457 (Pg:PgT):Prop:=Pg 457=some (.codeR F457 0)∧H484 Pg
theorem K457g {f:Nat} (h:Pg f=some (.codeR F457 0)) (h484:H484 Pg) (b:List UInt8) (l:List (List UInt8)) (hl:∀n∈l,n.length≤2 ^ 30) (hb:b.length+(Ye l).length≤2 ^ 29) :
  K' Pg f [.tuple (.lref 0 0::YaF b),YcD l]=some (.tuple [.tuple [],.tuple (YaF (b++Ye l))]):=by
 have hll:l.length≤(Ye l).length:=Y5 (P:=fun _=>True) (fun a _=>YaM) (fun _ _=>Gm)
 refine YbK h rfl rfl fun S0 ⟨r0,r,hT0,m0,a0⟩=>?_
 have r1:=r 0
 simp only[Jlh,Option.getD_some] at r1
 simp only[go_sem] at r1
 simp only[F457,c457,go_sem,r1,Gl]
 unfold l457_0
 refine Jms (fun (i:Nat) S=>i≤l.length∧S.ρ 0=.lref 0 0∧S.ρ 6=YcD l∧S.ρ 7=iz l.length∧S.ρ 8=iz i∧HW S 0 (b++Ye (l.take i)) 9000) (fun i=>l.length-i) 0 ?_ ?_
 ·exact⟨Gae _,Jmc (by simp only[go_sem,r0]) rfl,Jmc (by simp only[go_sem]) rfl,Jmc (by simp only[go_sem]) rfl,Jmc (by simp only[go_sem]) rfl,(HW.head (a:=9000) (h1:=9000) ⟨by simp only[go_sem,hT0.m]<;>simp[Ye],by simp only[hT0.a]<;>simp[Ye]⟩ rfl rfl).1⟩
 ·intro i S ⟨hi,s0,s6x,s7x,s8x,hT⟩
  have hm:=hT.m
  have hA:=hT.a
  cases c1:decide ((i:Int)<(l.length:Int)) with
  |false=>
   have hil:i=l.length:=by have:=Gk c1;omega
   rw[hil,GP] at hT
   simp only[go_sem,s7x,s8x,c1]
   exact⟨9000,hT.m,hT.a⟩
  |true=>
   have hlt:=Yi c1
   obtain⟨n,hn,-⟩:=Jl8 hlt
   have hinc:=inc64q (i:=i) (by omega)
   have n0:=hl n (List.mem_of_getElem? hn)
   have k:=K484 h484 n (by omega)
   have htk:l.take (i+1)=l.take i++[n]:=by rw[GT,hn];rfl
   have hbl:(Ye (l.take (i+1))).length≤(Ye l).length:=by
    conv=>rhs;rw[←Gah (i+1) l]
    simp only[Ye,GZ,Gc];omega
   rw[htk,Yct,Gc] at hbl
   have hlim:(b++Ye (l.take i)).length+(Yt n).length≤lim:=by rw[Gc];unfold lim;omega
   generalize hg:b++Ye (l.take i)=g at *
   have hfull:b++Ye (l.take (i+1))=g++Yt n:=by rw[htk,Yct,←GQ,hg]
   simp only[go_sem,s0,s6x,s7x,s8x,c1,hn,k,hinc,hm,hA,hlim,Gl]
   refine⟨i+1,by omega,by omega,Jmc (by simp only[go_sem,s0]) rfl,Jmc (by simp only[go_sem,s6x]) rfl,Jmc (by simp only[go_sem,s7x]) rfl,Jmc (by simp only[go_sem]) rfl,(HW.head (a:=9000) (h1:=9000) ⟨?_,?_⟩ rfl rfl).1⟩
   ·rw[hfull];simp only[go_sem,Gc]
   ·rw[hfull];simp only[go_sem,Gab]<;>rfl
theorem Yd5 {s:Stamp}:1≤(stB s).length:=by
 have:=YY s.wall.toNat;simp only[stB,Gc];omega
def Yf (l:List Stamp):List UInt8:=l.flatMap stB
theorem Yb8 {l:List Stamp} {n:Stamp}:Yf (l++[n])=Yf l++stB n:=by simp[Yf]
def H421 (Pg:PgT):Prop:=Pg 421=some (.codeR F421 0)∧H455 Pg
theorem K421g {f:Nat} (h:Pg f=some (.codeR F421 0)) (h455:H455 Pg) (b:List UInt8) (l:List Stamp) (hl:∀n∈l,Ya n=true) (hb:b.length+(Yf l).length≤2 ^ 29) :
  K' Pg f [.tuple (.lref 0 0::YaF b),YO l]=some (.tuple [.tuple [],.tuple (YaF (b++Yf l))]):=by
 have hll:l.length≤(Yf l).length:=Y5 (P:=fun _=>True) (fun a _=>Yd5) (fun _ _=>Gm)
 refine YbK h rfl rfl fun S0 ⟨r0,r,hT0,m0,a0⟩=>?_
 have r1:=r 0
 simp only[Jlh,Option.getD_some] at r1
 simp only[go_sem] at r1
 simp only[F421,c421,go_sem,r1,Gl]
 unfold l421_0
 refine Jms (fun (i:Nat) S=>i≤l.length∧S.ρ 0=.lref 0 0∧S.ρ 8=YO l∧S.ρ 9=iz l.length∧S.ρ 10=iz i∧HW S 0 (b++Yf (l.take i)) 9000∧S.μ 5=none) (fun i=>l.length-i) 0 ?_ ?_
 ·exact⟨Gae _,Jmc (by simp only[go_sem,r0]) rfl,Jmc (by simp only[go_sem]) rfl,Jmc (by simp only[go_sem]) rfl,Jmc (by simp only[go_sem]) rfl,(HW.head (a:=9000) (h1:=9000) ⟨by simp only[go_sem,hT0.m]<;>simp[Yf],by simp only[hT0.a]<;>simp[Yf]⟩ rfl rfl).1,Jma (.inr rfl)⟩
 ·intro i S ⟨hi,s0,s6x,s7x,s8x,hT,n5⟩
  have hm:=hT.m
  have hA:=hT.a
  cases c1:decide ((i:Int)<(l.length:Int)) with
  |false=>
   have hil:i=l.length:=by have:=Gk c1;omega
   rw[hil,GP] at hT
   simp only[go_sem,s7x,s8x,c1]
   exact⟨9000,hT.m,hT.a⟩
  |true=>
   have hlt:=Yi c1
   obtain⟨n,hn,-⟩:=Jl8 hlt
   have hinc:=inc64q (i:=i) (by omega)
   have n0:=hl n (List.mem_of_getElem? hn)
   have k:=K455 h455 n n0
   simp only[go_sem] at k
   have htk:l.take (i+1)=l.take i++[n]:=by rw[GT,hn];rfl
   have hbl:(Yf (l.take (i+1))).length≤(Yf l).length:=by
    conv=>rhs;rw[←Gah (i+1) l]
    simp only[Yf,GZ,Gc];omega
   rw[htk,Yb8,Gc] at hbl
   have hlim:(b++Yf (l.take i)).length+(stB n).length≤lim:=by rw[Gc];unfold lim;omega
   generalize hg:b++Yf (l.take i)=g at *
   have hfull:b++Yf (l.take (i+1))=g++stB n:=by rw[htk,Yb8,←GQ,hg]
   simp only[go_sem,s0,s6x,s7x,s8x,c1,hn,k,hinc,hm,hA,n5,hlim,Gl]
   refine⟨i+1,by omega,by omega,Jmc (by simp only[go_sem,s0]) rfl,Jmc (by simp only[go_sem,s6x]) rfl,Jmc (by simp only[go_sem,s7x]) rfl,Jmc (by simp only[go_sem]) rfl,(HW.head (a:=9000) (h1:=9000) ⟨?_,?_⟩ rfl rfl).1,Jma (.inr rfl)⟩
   ·rw[hfull];simp only[go_sem,Gc]
   ·rw[hfull];simp only[go_sem,Gab]<;>rfl
def H458 (Pg:PgT):Prop:=Pg 458=some (.codeR F458 0)∧H485 Pg
theorem K458 (h:H458 Pg) (b:List UInt8) (x:Bool) (hb:b.length≤2 ^ 24) :
  K' Pg 458 [.tuple (.lref 0 0::YaF b),.bool x]=some (.tuple [.tuple [],.tuple (YaF (b++Yq x))]):=by
 obtain⟨h,h485⟩:=h
 have k:=K485 h485 x
 have hl1:(Yq x).length=1:=by simp[Yq]
 refine YbK h rfl rfl fun S0 ⟨r0,r,hT0,m0,a0⟩=>?_
 have r1:=r 0
 simp only[Jlh,Option.getD_some] at r1
 have hm:=hT0.m
 have hA:=hT0.a
 have hlim:b.length+(Yq x).length≤lim:=by unfold lim;omega
 generalize Yq x=g at *
 simp only[F458,c458,go_sem,r0,r1,hm,hA,k,hlim,Gl]
 exact⟨9000,by simp only[go_sem,Gc],by simp only[go_sem,Gab]<;>rfl⟩
theorem Ycm (h:H458 Pg) (g:List UInt8) (x:Bool) (hb:g.length≤2 ^ 24) :
  K' Pg 458 [.tuple [.lref 0 0,.tuple [.slice 1 (g.map rowB)]],.bool x]=some (.tuple [.tuple [],.tuple [.tuple [.slice 1 ((g++Yq x).map rowB)]]]):=K458 h g x hb
theorem YaI {α:Type} {W:α→List UInt8} {l:List α} {i:Nat}:((l.take i).flatMap W).length≤(l.flatMap W).length:=by
 conv=>rhs;rw[←Gah i l]
 simp only[GZ,Gc];omega
theorem HW.out {S:St} {v:Nat} {b b':List UInt8} {a:Nat} (h:HW S v b a) (e:b=b'):HW S v b' a:=e▸h
def smI (x:Inf):Bool:=decide ((x.mem.length:Int)≤40)
def Y3 (d:Drc):Bool:=decide ((d.places.length:Int)≤40)&&(decide ((d.cells.length:Int)≤40)&&(decide ((d.lows.length:Int)≤40)&&(decide ((d.leases.length:Int)≤40)&&(decide ((d.opened.length:Int)≤40)&&(decide ((d.job.parts.length:Int)≤200)&&(decide ((d.job.wait.length:Int)≤100)&&(decide ((d.job.mem.length:Int)≤40)&&d.cells.all smI)))))))
theorem YX {n:Int} (h:NV n):0≤n∧n<2 ^ 63:=by
 obtain⟨h1,h2⟩:=h;omega
def H526 (Pg:PgT):Prop:=Pg 526=some (.codeR F422 0)∧H456 Pg
def H528 (Pg:PgT):Prop:=Pg 528=some (.codeR F457 0)∧H484 Pg
def H537 (Pg:PgT):Prop:=Pg 537=some (.codeR F421 0)∧H455 Pg
theorem YaK (h:H526 Pg) (g:List UInt8) (l:List Int) (hl:∀n∈l,0≤n∧n<2 ^ 63) (hb:g.length+9*l.length≤2 ^ 29) :
  K' Pg 526 [.tuple [.lref 0 0,.tuple [.slice 1 (g.map rowB)]],.slice 1 (l.map fun a=>[iz a])]=some (.tuple [.tuple [],.tuple [.tuple [.slice 1 ((g++Yc l).map rowB)]]]):=K422g h.1 h.2 g l hl hb
theorem YcF (h:H528 Pg) (g:List UInt8) (l:List (List UInt8)) (hl:∀n∈l,n.length≤2 ^ 30) (hb:g.length+(Ye l).length≤2 ^ 29) :
  K' Pg 528 [.tuple [.lref 0 0,.tuple [.slice 1 (g.map rowB)]],.slice 1 (l.map fun t=>[.str t])]=some (.tuple [.tuple [],.tuple [.tuple [.slice 1 ((g++Ye l).map rowB)]]]):=K457g h.1 h.2 g l hl hb
theorem Ycn (h:H537 Pg) (g:List UInt8) (l:List Stamp) (hl:∀n∈l,Ya n=true) (hb:g.length+(Yf l).length≤2 ^ 29) :
  K' Pg 537 [.tuple [.lref 0 0,.tuple [.slice 1 (g.map rowB)]],.slice 3 (l.map Yg)]=some (.tuple [.tuple [],.tuple [.tuple [.slice 1 ((g++Yf l).map rowB)]]]):=K421g h.1 h.2 g l hl hb
def Yau (l:List Int):List UInt8:=Yc [(l.length:Int)]++Yc l
theorem Yag {l:List Int}:Yau l=YP nB l:=by simp only[Yau,Yc,YP,Gu,GB,Gz,Int.toNat_natCast];rfl
def H527 (Pg:PgT):Prop:=Pg 527=some (.codeR F527 0)∧H526 Pg
theorem Yc6 (h:H527 Pg) (b:List UInt8) (l:List Int) (hl:∀n∈l,NV n) (hb:b.length+9*l.length+20≤2 ^ 29) :
  K' Pg 527 [.tuple [.lref 0 0,.tuple [.slice 1 (b.map rowB)]],.slice 1 (l.map fun a=>[iz a])]=some (.tuple [.tuple [],.tuple [.tuple [.slice 1 ((b++Yau l).map rowB)]]]):=by
 obtain⟨h,h526⟩:=h
 have h1:=Yah (l:=[(l.length:Int)]) (by intro n hn;have:=List.mem_singleton.1 hn;subst this;omega)
 simp only[List.length_cons,List.length_nil] at h1
 have q1:=YaK h526 b [(l.length:Int)] (by intro n hn;have:=List.mem_singleton.1 hn;subst this;omega) (by simp only[List.length_cons,List.length_nil];omega)
 have q2:=YaK h526 (b++Yc [(l.length:Int)]) l (fun n hn=>YX (hl n hn)) (by simp only[Gc];omega)
 refine YbK (b:=b) (b':=b++Yau l) (rest:=[Yh l]) h rfl rfl fun S0 ⟨r0,r,hT0,m0,a0⟩=>?_
 have r1:=r 0
 simp only[Jlh,Option.getD_some] at r1
 have hm:=hT0.m
 have hA:=hT0.a
 have a1:=a0 20000 (by decide)
 have a2:=a0 20100 (by decide)
 simp only[Gq,Gt] at q1
 simp only[go_sem] at r1
 have hfull:b++Yau l=b++Yc [(l.length:Int)]++Yc l:=by simp[Yau]
 rw[hfull]
 generalize Yc [(l.length:Int)]=b1 at *
 generalize Yc l=b2 at *
 simp only[F527,c527,go_sem,Jmd,r0,r1,hm,hA,a1,a2,q1,q2,Gl]
 exact⟨20100,by simp only[go_sem,Gc],by simp only[go_sem]⟩
def jbW (j:Jb):List UInt8:=Yc [j.kind,j.step,j.id,j.shard,j.other,j.cell,j.to,j.epoch]++Ye [j.key]++Yc [(j.parts.length:Int)]++Ye j.parts++Yc [j.of_,j.client,j.req]++Ye [j.span.lo,j.span.hi]++Yau j.wait++Yf [j.at_]++Yau j.mem
theorem Yez {j:Jb}:jbW j=jbB j:=by
 simp only[jbW,jbB,Yag,Yc,Ye,Yf,YP,nB,Gu,GB,Gz,Int.toNat_natCast,GQ]
structure JbS (j:Jb):Prop where
 v:JbV j
 key:j.key.length≤2 ^ 30
 parts:∀t∈j.parts,t.length≤2 ^ 30
 span:j.span.lo.length≤2 ^ 30∧j.span.hi.length≤2 ^ 30
 wait:j.wait.length≤2 ^ 20
 mem:j.mem.length≤2 ^ 20
def H538 (Pg:PgT):Prop:=Pg 538=some (.codeR F538 0)∧H526 Pg∧H528 Pg∧H527 Pg∧H537 Pg
theorem k538n (h:H538 Pg) (b:List UInt8) (j:Jb) (hj:JbS j) (hb:b.length+(jbW j).length+2 ^ 25≤2 ^ 29) :
  K' Pg 538 [.tuple [.lref 0 0,.tuple [.slice 1 (b.map rowB)]],.agg (eJb j)]=some (.tuple [.tuple [],.tuple [.tuple [.slice 1 ((b++jbW j).map rowB)]]]):=by
 obtain⟨h,h526,h528,h527,h537⟩:=h
 obtain⟨⟨⟨v1,v2,v3,v4,v5,v6,v7,v8,v9,v10,v11,v12,v13,v14,v15,v16,v17,v18⟩,-⟩,hk,hp,hs,hw,hme⟩:=hj
 have hpl:=v10.1
 simp only[jbW,Gc] at hb
 have q1:=YaK h526 (b) [j.kind,j.step,j.id,j.shard,j.other,j.cell,j.to,j.epoch] (Gg.2 ⟨YX v1,Gg.2 ⟨YX v2,Gg.2 ⟨YX v3,Gg.2 ⟨YX v4,Gg.2 ⟨YX v5,Gg.2 ⟨YX v6,Gg.2 ⟨YX v7,Gg.2 ⟨YX v8,fun _ h=>by cases h⟩⟩⟩⟩⟩⟩⟩⟩) (by simp only[Gc,List.length_cons,List.length_nil];omega)
 have q2:=YcF h528 (b++Yc [j.kind,j.step,j.id,j.shard,j.other,j.cell,j.to,j.epoch]) [j.key] (Gg.2 ⟨hk,fun _ h=>by cases h⟩) (by simp only[Gc,List.length_cons,List.length_nil];omega)
 have q3:=YaK h526 (b++Yc [j.kind,j.step,j.id,j.shard,j.other,j.cell,j.to,j.epoch]++Ye [j.key]) [(j.parts.length:Int)] (Gg.2 ⟨⟨by omega,by omega⟩,fun _ h=>by cases h⟩) (by simp only[Gc,List.length_cons,List.length_nil];omega)
 have q4:=YcF h528 (b++Yc [j.kind,j.step,j.id,j.shard,j.other,j.cell,j.to,j.epoch]++Ye [j.key]++Yc [(j.parts.length:Int)]) j.parts (fun n hn=>hp n hn) (by simp only[Gc,List.length_cons,List.length_nil];omega)
 have q5:=YaK h526 (b++Yc [j.kind,j.step,j.id,j.shard,j.other,j.cell,j.to,j.epoch]++Ye [j.key]++Yc [(j.parts.length:Int)]++Ye j.parts) [j.of_,j.client,j.req] (Gg.2 ⟨YX v11,Gg.2 ⟨YX v12,Gg.2 ⟨YX v13,fun _ h=>by cases h⟩⟩⟩) (by simp only[Gc,List.length_cons,List.length_nil];omega)
 have q6:=YcF h528 (b++Yc [j.kind,j.step,j.id,j.shard,j.other,j.cell,j.to,j.epoch]++Ye [j.key]++Yc [(j.parts.length:Int)]++Ye j.parts++Yc [j.of_,j.client,j.req]) [j.span.lo,j.span.hi] (Gg.2 ⟨hs.1,Gg.2 ⟨hs.2,fun _ h=>by cases h⟩⟩) (by simp only[Gc,List.length_cons,List.length_nil];omega)
 have q7:=Yc6 h527 (b++Yc [j.kind,j.step,j.id,j.shard,j.other,j.cell,j.to,j.epoch]++Ye [j.key]++Yc [(j.parts.length:Int)]++Ye j.parts++Yc [j.of_,j.client,j.req]++Ye [j.span.lo,j.span.hi]) j.wait (fun n hn=>v16.2 n hn) (by simp only[Gc,List.length_cons,List.length_nil];omega)
 have q8:=Ycn h537 (b++Yc [j.kind,j.step,j.id,j.shard,j.other,j.cell,j.to,j.epoch]++Ye [j.key]++Yc [(j.parts.length:Int)]++Ye j.parts++Yc [j.of_,j.client,j.req]++Ye [j.span.lo,j.span.hi]++Yau j.wait) [j.at_] (Gg.2 ⟨v17,fun _ h=>by cases h⟩) (by simp only[Gc,List.length_cons,List.length_nil];omega)
 have q9:=Yc6 h527 (b++Yc [j.kind,j.step,j.id,j.shard,j.other,j.cell,j.to,j.epoch]++Ye [j.key]++Yc [(j.parts.length:Int)]++Ye j.parts++Yc [j.of_,j.client,j.req]++Ye [j.span.lo,j.span.hi]++Yau j.wait++Yf [j.at_]) j.mem (fun n hn=>v18.2 n hn) (by simp only[Gc,List.length_cons,List.length_nil];omega)
 have hfull:b++jbW j=b++Yc [j.kind,j.step,j.id,j.shard,j.other,j.cell,j.to,j.epoch]++Ye [j.key]++Yc [(j.parts.length:Int)]++Ye j.parts++Yc [j.of_,j.client,j.req]++Ye [j.span.lo,j.span.hi]++Yau j.wait++Yf [j.at_]++Yau j.mem:=by simp only[jbW,GQ]
 refine YbK (b:=b) (b':=b++jbW j) (rest:=[.agg (eJb j)]) h rfl rfl fun S0 ⟨r0,r,hT0,m0,a0⟩=>?_
 rw[hfull]
 have r1:=r 0
 simp only[Jlh,Option.getD_some] at r1
 have hm:=hT0.m
 have hA:=hT0.a
 have m3:=m0 3 rfl
 have a1:=a0 20000 (by decide)
 have a2:=a0 20100 (by decide)
 have a3:=a0 20200 (by decide)
 have a4:=a0 20300 (by decide)
 have a5:=a0 20400 (by decide)
 have a6:=a0 20500 (by decide)
 have a7:=a0 20600 (by decide)
 have a8:=a0 20700 (by decide)
 have a9:=a0 20800 (by decide)
 simp only[Gq,Gt] at q1 q2 q3 q5 q6 q8
 simp only[go_sem] at r1 q8
 change K' Pg 528 [_,V.slice 1 (j.parts.map eS1)]=_ at q4
 generalize Yc [j.kind,j.step,j.id,j.shard,j.other,j.cell,j.to,j.epoch]=b1 at *
 generalize Ye [j.key]=b2 at *
 generalize Yc [(j.parts.length:Int)]=b3 at *
 generalize Ye j.parts=b4 at *
 generalize Yc [j.of_,j.client,j.req]=b5 at *
 generalize Ye [j.span.lo,j.span.hi]=b6 at *
 generalize Yau j.wait=b7 at *
 generalize Yf [j.at_]=b8 at *
 generalize Yau j.mem=b9 at *
 simp only[F538,c538,go_sem,Jmd,r0,r1,hm,hA,m3,a1,a2,a3,a4,a5,a6,a7,a8,a9,q1,q2,q3,q4,q5,q6,q7,q8,q9,Gl]
 exact⟨20800,by simp only[go_sem,Gc],by simp only[go_sem]⟩
theorem Fr.up {A:AA} {n k:Nat} {v:Option (Nat×List (List V)×Fz)} (h:Fr A n) (hk:k<n):Fr (upd A k v) n:=fun x hx=>by
 simp only[upd];rw[GA (by omega)];exact h x hx
def PlS (p:Place):Prop:=PlV p∧p.span.lo.length≤2 ^ 30∧p.span.hi.length≤2 ^ 30
def InS (p:Inf):Prop:=InV p∧p.mem.length≤2 ^ 20
set_option maxHeartbeats 1000000
theorem YeJ (h526:H526 Pg) (h528:H528 Pg) {g:List UInt8} {es:List Place} (he:∀e∈es,PlS e) (hc:es.length<2 ^ 60) (hb:g.length+(es.flatMap plB).length+2 ^ 25≤2 ^ 29) {S:St} {Q:Ex→St→Prop} {X:List V} (hX:X.all V.datC=true)
  (s1:S.ρ 1=.lref 1 0) (s4:S.ρ 4=.lref 4 0) (m1:S.μ 1=some (X,false)) (n8:S.μ 8=none) (n10:S.μ 10=none) (n12:S.μ 12=none) (hn:Fr S.A 20300) (s22:S.ρ 22=.slice 5 (es.map ePl)) (s23:S.ρ 23=iz es.length) (s24:S.ρ 24=iz 0) {a:Nat} (ha:a<20300) (hT:HW S 4 g a)
  (hq:∀S',S'.ρ 1=.lref 1 0→S'.ρ 4=.lref 4 0→S'.μ 1=some (X,false)→S'.μ 8=none→S'.μ 10=none→S'.μ 12=none→Fr S'.A 20300→HW S' 4 (g++es.flatMap plB) 10400→Q .norm S'):Wp (K' Pg) l516_0 S (Blk 0 Q):=by
 unfold l516_0
 refine Jms (fun (i:Nat) S=>i≤es.length∧S.ρ 1=.lref 1 0∧S.ρ 4=.lref 4 0∧S.μ 1=some (X,false)∧S.μ 8=none∧S.μ 10=none∧S.μ 12=none∧Fr S.A 20300∧S.ρ 22=.slice 5 (es.map ePl)∧S.ρ 23=iz es.length∧S.ρ 24=iz i∧HW S 4 (g++(es.take i).flatMap plB) 10400∧S.μ 6=none∧S.A 20100=none∧S.A 20200=none) (fun i=>es.length-i) 0 ?_ ?_
 ·have hh:=HW.head (Wv:=[6]) (Wa:=[20100,20200]) (h1:=10400) hT rfl rfl
  exact⟨Gae _,Jmc s1 rfl,Jmc s4 rfl,Jmb m1 hX rfl,Jma (.inl n8),Jma (.inl n10),Jma (.inl n12),fun x hx=>hh.2.2 x (by omega) (by omega) (hn x hx),Jmc s22 rfl,Jmc s23 rfl,Jmc s24 rfl,by simpa using hh.1,Jma (.inr rfl),hh.2.1 _ rfl,hh.2.1 _ rfl⟩
 ·intro i S ⟨hi,s1,s4,m1,n8,n10,n12,hn,s22,s23,s24,hT,nn,w20100,w20200⟩
  have hm:=hT.m
  have hA:=hT.a
  cases c1:decide ((i:Int)<(es.length:Int)) with
  |false=>
   have hil:i=es.length:=by have:=Gk c1;omega
   rw[hil,GP] at hT
   simp only[go_sem,s23,s24,c1]
   exact hq _ (by simp only[go_sem,s1]) (by simp only[go_sem,s4]) m1 n8 n10 n12 hn ⟨hT.m,hT.a⟩
  |true=>
   have hlt:=Yi c1
   obtain⟨e,hx,-⟩:=Jl8 hlt
   have hinc:=inc64q (i:=i) (by omega)
   have hv:=he e (List.mem_of_getElem? hx)
   have htk:es.take (i+1)=es.take i++[e]:=by rw[GT,hx];rfl
   have hbl:=YaI (W:=plB) (l:=es) (i:=i+1)
   have hfull:g++(es.take (i+1)).flatMap plB=g++(es.take i).flatMap plB++Ye [e.span.lo,e.span.hi]++Yc [e.shard,e.cell,e.epoch]:=by rw[htk];simp[plB,Yag,Ye,Yc,Yf,nB]
   rw[htk,GZ,Gc] at hbl
   simp only[Gu,GB,Gz,plB,nB,←Yag,Gc] at hbl
   generalize hg:g++(es.take i).flatMap plB=g1 at *
   have hgl:g1.length=g.length+((es.take i).flatMap plB).length:=by rw[←hg,Gc]
   have q1:=YcF h528 (g1) [e.span.lo,e.span.hi] (Gg.2 ⟨hv.2.1,Gg.2 ⟨hv.2.2,fun _ h=>by cases h⟩⟩) (by simp only[Ye,Yc,Yf,Gu,GB,Gz,Gc,List.length_cons,List.length_nil];omega)
   have q2:=YaK h526 (g1++Ye [e.span.lo,e.span.hi]) [e.shard,e.cell,e.epoch] (Gg.2 ⟨YX hv.1.1.2.2.1,Gg.2 ⟨YX hv.1.1.2.2.2.1,Gg.2 ⟨YX hv.1.1.2.2.2.2,fun _ h=>by cases h⟩⟩⟩) (by simp only[Ye,Yc,Yf,Gu,GB,Gz,Gc,List.length_cons,List.length_nil];omega)
   simp only[Gq,Gt] at q1 q2
   generalize Ye [e.span.lo,e.span.hi]=b1 at *
   generalize Yc [e.shard,e.cell,e.epoch]=b2 at *
   simp only[go_sem,Jmd,s1,s4,s22,s23,s24,c1,hx,hm,hA,nn,w20100,w20200,q1,q2,hinc,Gl]
   have h4:=fun {S:St} (h:HW S 4 (g1++b1++b2) 20200)=>HW.head (Wv:=[6]) (Wa:=[20100,20200]) (h1:=10400) h rfl rfl
   refine⟨i+1,by omega,by omega,Jmc (by simp only[go_sem,s1]) rfl,Jmc (by simp only[go_sem,s4]) rfl,Jmb (by simp only[go_sem,m1]) hX rfl,Jma (.inl (by simp only[go_sem,n8])),Jma (.inl (by simp only[go_sem,n10])),Jma (.inl (by simp only[go_sem,n12])),fun x hx=>(h4 ⟨?_,?_⟩).2.2 x (by omega) (by omega) ((show Fr _ 20300 from by repeat' first|exact hn|refine Fr.up ?_ (by omega)) x hx),Jmc (by simp only[go_sem,s22]) rfl,Jmc (by simp only[go_sem,s23]) rfl,Jmc (by simp only[go_sem]) rfl,(h4 ⟨?_,?_⟩).1.out hfull.symm,Jma (.inr rfl),(h4 ⟨?_,?_⟩).2.1 _ rfl,(h4 ⟨?_,?_⟩).2.1 _ rfl⟩
   all_goals simp only[go_sem,Gc]
theorem Yew (h526:H526 Pg) (h527:H527 Pg) (h485:H485 Pg) {g:List UInt8} {es:List Inf} (he:∀e∈es,InS e) (hc:es.length<2 ^ 60) (hb:g.length+(es.flatMap inB).length+2 ^ 25≤2 ^ 29) {S:St} {Q:Ex→St→Prop} {X:List V} (hX:X.all V.datC=true)
  (s1:S.ρ 1=.lref 1 0) (s4:S.ρ 4=.lref 4 0) (m1:S.μ 1=some (X,false)) (n10:S.μ 10=none) (n12:S.μ 12=none) (hn:Fr S.A 20600) (s51:S.ρ 51=.slice 3 (es.map YbY)) (s52:S.ρ 52=iz es.length) (s53:S.ρ 53=iz 0) {a:Nat} (ha:a<20600) (hT:HW S 4 g a)
  (hq:∀S',S'.ρ 1=.lref 1 0→S'.ρ 4=.lref 4 0→S'.μ 1=some (X,false)→S'.μ 10=none→S'.μ 12=none→Fr S'.A 20600→HW S' 4 (g++es.flatMap inB) 10400→Q .norm S'):Wp (K' Pg) l516_1 S (Blk 2 Q):=by
 unfold l516_1
 refine Jms (fun (i:Nat) S=>i≤es.length∧S.ρ 1=.lref 1 0∧S.ρ 4=.lref 4 0∧S.μ 1=some (X,false)∧S.μ 10=none∧S.μ 12=none∧Fr S.A 20600∧S.ρ 51=.slice 3 (es.map YbY)∧S.ρ 52=iz es.length∧S.ρ 53=iz i∧HW S 4 (g++(es.take i).flatMap inB) 10400∧S.μ 8=none∧S.A 20400=none∧S.A 20500=none) (fun i=>es.length-i) 0 ?_ ?_
 ·have hh:=HW.head (Wv:=[8]) (Wa:=[20400,20500]) (h1:=10400) hT rfl rfl
  exact⟨Gae _,Jmc s1 rfl,Jmc s4 rfl,Jmb m1 hX rfl,Jma (.inl n10),Jma (.inl n12),fun x hx=>hh.2.2 x (by omega) (by omega) (hn x hx),Jmc s51 rfl,Jmc s52 rfl,Jmc s53 rfl,by simpa using hh.1,Jma (.inr rfl),hh.2.1 _ rfl,hh.2.1 _ rfl⟩
 ·intro i S ⟨hi,s1,s4,m1,n10,n12,hn,s51,s52,s53,hT,nn,w20400,w20500⟩
  have hm:=hT.m
  have hA:=hT.a
  cases c1:decide ((i:Int)<(es.length:Int)) with
  |false=>
   have hil:i=es.length:=by have:=Gk c1;omega
   rw[hil,GP] at hT
   simp only[go_sem,s52,s53,c1]
   exact hq _ (by simp only[go_sem,s1]) (by simp only[go_sem,s4]) m1 n10 n12 hn ⟨hT.m,hT.a⟩
  |true=>
   have hlt:=Yi c1
   obtain⟨e,hx,-⟩:=Jl8 hlt
   have hinc:=inc64q (i:=i) (by omega)
   have hv:=he e (List.mem_of_getElem? hx)
   have hml:=hv.2
   have htk:es.take (i+1)=es.take i++[e]:=by rw[GT,hx];rfl
   have hbl:=YaI (W:=inB) (l:=es) (i:=i+1)
   have hfull:g++(es.take (i+1)).flatMap inB=g++(es.take i).flatMap inB++Yc [e.view]++Yau e.mem++Yq e.whole:=by rw[htk];simp[inB,Yag,Ye,Yc,Yf,nB]
   rw[htk,GZ,Gc] at hbl
   simp only[Gu,GB,Gz,inB,nB,←Yag,Gc] at hbl
   generalize hg:g++(es.take i).flatMap inB=g1 at *
   have hgl:g1.length=g.length+((es.take i).flatMap inB).length:=by rw[←hg,Gc]
   have q1:=YaK h526 (g1) [e.view] (Gg.2 ⟨YX hv.1.1.1,fun _ h=>by cases h⟩) (by simp only[Ye,Yc,Yf,Gu,GB,Gz,Gc,List.length_cons,List.length_nil];omega)
   have q2:=Yc6 h527 (g1++Yc [e.view]) e.mem (fun n hn=>hv.1.1.2.1.2 n hn) (by simp only[Ye,Yc,Yf,Gu,GB,Gz,Gc,List.length_cons,List.length_nil];omega)
   have q3:=K485 h485 e.whole
   have hfl:(Yq e.whole).length=1:=by simp[Yq]
   have hlim:g1.length+(Yc [e.view]).length+(Yau e.mem).length+(Yq e.whole).length≤lim:=by unfold lim;simp only[Ye,Yc,Yf,Gu,GB,Gz,Gc,List.length_cons,List.length_nil];omega
   simp only[Gq,Gt] at q1
   generalize Yc [e.view]=b1 at *
   generalize Yau e.mem=b2 at *
   generalize Yq e.whole=b3 at *
   simp only[go_sem,Jmd,s1,s4,s51,s52,s53,c1,hx,hm,hA,nn,w20400,w20500,q1,q2,q3,hinc,hlim,Gl]
   have h4:=fun {S:St} (h:HW S 4 (g1++b1++b2++b3) 20500)=>HW.head (Wv:=[8]) (Wa:=[20400,20500]) (h1:=10400) h rfl rfl
   refine⟨i+1,by omega,by omega,Jmc (by simp only[go_sem,s1]) rfl,Jmc (by simp only[go_sem,s4]) rfl,Jmb (by simp only[go_sem,m1]) hX rfl,Jma (.inl (by simp only[go_sem,n10])),Jma (.inl (by simp only[go_sem,n12])),fun x hx=>(h4 ⟨?_,?_⟩).2.2 x (by omega) (by omega) ((show Fr _ 20600 from by repeat' first|exact hn|refine Fr.up ?_ (by omega)) x hx),Jmc (by simp only[go_sem,s51]) rfl,Jmc (by simp only[go_sem,s52]) rfl,Jmc (by simp only[go_sem]) rfl,(h4 ⟨?_,?_⟩).1.out hfull.symm,Jma (.inr rfl),(h4 ⟨?_,?_⟩).2.1 _ rfl,(h4 ⟨?_,?_⟩).2.1 _ rfl⟩
   all_goals first|(simp only[go_sem,Gc];done)|(simp only[go_sem,Gab]<;>rfl)
theorem YeF (h526:H526 Pg) (h537:H537 Pg) {g:List UInt8} {es:List Lse} (he:∀e∈es,LeV e) (hc:es.length<2 ^ 60) (hb:g.length+(es.flatMap leB).length+2 ^ 25≤2 ^ 29) {S:St} {Q:Ex→St→Prop} {X:List V} (hX:X.all V.datC=true)
  (s1:S.ρ 1=.lref 1 0) (s4:S.ρ 4=.lref 4 0) (m1:S.μ 1=some (X,false)) (n12:S.μ 12=none) (hn:Fr S.A 20900) (s80:S.ρ 80=.slice 5 (es.map Y9)) (s81:S.ρ 81=iz es.length) (s82:S.ρ 82=iz 0) {a:Nat} (ha:a<20900) (hT:HW S 4 g a)
  (hq:∀S',S'.ρ 1=.lref 1 0→S'.ρ 4=.lref 4 0→S'.μ 1=some (X,false)→S'.μ 12=none→Fr S'.A 20900→HW S' 4 (g++es.flatMap leB) 10400→Q .norm S'):Wp (K' Pg) l516_2 S (Blk 4 Q):=by
 unfold l516_2
 refine Jms (fun (i:Nat) S=>i≤es.length∧S.ρ 1=.lref 1 0∧S.ρ 4=.lref 4 0∧S.μ 1=some (X,false)∧S.μ 12=none∧Fr S.A 20900∧S.ρ 80=.slice 5 (es.map Y9)∧S.ρ 81=iz es.length∧S.ρ 82=iz i∧HW S 4 (g++(es.take i).flatMap leB) 10400∧S.μ 10=none∧S.A 20700=none∧S.A 20800=none) (fun i=>es.length-i) 0 ?_ ?_
 ·have hh:=HW.head (Wv:=[10]) (Wa:=[20700,20800]) (h1:=10400) hT rfl rfl
  exact⟨Gae _,Jmc s1 rfl,Jmc s4 rfl,Jmb m1 hX rfl,Jma (.inl n12),fun x hx=>hh.2.2 x (by omega) (by omega) (hn x hx),Jmc s80 rfl,Jmc s81 rfl,Jmc s82 rfl,by simpa using hh.1,Jma (.inr rfl),hh.2.1 _ rfl,hh.2.1 _ rfl⟩
 ·intro i S ⟨hi,s1,s4,m1,n12,hn,s80,s81,s82,hT,nn,w20700,w20800⟩
  have hm:=hT.m
  have hA:=hT.a
  cases c1:decide ((i:Int)<(es.length:Int)) with
  |false=>
   have hil:i=es.length:=by have:=Gk c1;omega
   rw[hil,GP] at hT
   simp only[go_sem,s81,s82,c1]
   exact hq _ (by simp only[go_sem,s1]) (by simp only[go_sem,s4]) m1 n12 hn ⟨hT.m,hT.a⟩
  |true=>
   have hlt:=Yi c1
   obtain⟨e,hx,-⟩:=Jl8 hlt
   have hinc:=inc64q (i:=i) (by omega)
   have hv:=he e (List.mem_of_getElem? hx)
   have htk:es.take (i+1)=es.take i++[e]:=by rw[GT,hx];rfl
   have hbl:=YaI (W:=leB) (l:=es) (i:=i+1)
   have hfull:g++(es.take (i+1)).flatMap leB=g++(es.take i).flatMap leB++Yc [e.id,e.lft]++Yf [e.at_]:=by rw[htk];simp[leB,Yag,Ye,Yc,Yf,nB]
   rw[htk,GZ,Gc] at hbl
   simp only[Gu,GB,Gz,leB,nB,←Yag,Gc] at hbl
   generalize hg:g++(es.take i).flatMap leB=g1 at *
   have hgl:g1.length=g.length+((es.take i).flatMap leB).length:=by rw[←hg,Gc]
   have q1:=YaK h526 (g1) [e.id,e.lft] (Gg.2 ⟨YX hv.1.1,Gg.2 ⟨YX hv.1.2.1,fun _ h=>by cases h⟩⟩) (by simp only[Ye,Yc,Yf,Gu,GB,Gz,Gc,List.length_cons,List.length_nil];omega)
   have q2:=Ycn h537 (g1++Yc [e.id,e.lft]) [e.at_] (Gg.2 ⟨hv.1.2.2,fun _ h=>by cases h⟩) (by simp only[Ye,Yc,Yf,Gu,GB,Gz,Gc,List.length_cons,List.length_nil];omega)
   simp only[Gq,Gt] at q1 q2
   simp only[go_sem] at q2
   generalize Yc [e.id,e.lft]=b1 at *
   generalize Yf [e.at_]=b2 at *
   simp only[go_sem,Jmd,s1,s4,s80,s81,s82,c1,hx,hm,hA,nn,w20700,w20800,q1,q2,hinc,Gl]
   have h4:=fun {S:St} (h:HW S 4 (g1++b1++b2) 20800)=>HW.head (Wv:=[10]) (Wa:=[20700,20800]) (h1:=10400) h rfl rfl
   refine⟨i+1,by omega,by omega,Jmc (by simp only[go_sem,s1]) rfl,Jmc (by simp only[go_sem,s4]) rfl,Jmb (by simp only[go_sem,m1]) hX rfl,Jma (.inl (by simp only[go_sem,n12])),fun x hx=>(h4 ⟨?_,?_⟩).2.2 x (by omega) (by omega) ((show Fr _ 20900 from by repeat' first|exact hn|refine Fr.up ?_ (by omega)) x hx),Jmc (by simp only[go_sem,s80]) rfl,Jmc (by simp only[go_sem,s81]) rfl,Jmc (by simp only[go_sem]) rfl,(h4 ⟨?_,?_⟩).1.out hfull.symm,Jma (.inr rfl),(h4 ⟨?_,?_⟩).2.1 _ rfl,(h4 ⟨?_,?_⟩).2.1 _ rfl⟩
   all_goals simp only[go_sem,Gc]
theorem YeI (h526:H526 Pg) (h537:H537 Pg) {g:List UInt8} {es:List ORw} (he:∀e∈es,OrV e) (hc:es.length<2 ^ 60) (hb:g.length+(es.flatMap orB).length+2 ^ 25≤2 ^ 29) {S:St} {Q:Ex→St→Prop} {X:List V} (hX:X.all V.datC=true)
  (s1:S.ρ 1=.lref 1 0) (s4:S.ρ 4=.lref 4 0) (m1:S.μ 1=some (X,false))  (hn:Fr S.A 21700) (s118:S.ρ 118=.slice 7 (es.map Ycb)) (s119:S.ρ 119=iz es.length) (s120:S.ρ 120=iz 0) {a:Nat} (ha:a<21700) (hT:HW S 4 g a)
  (hq:∀S',S'.ρ 1=.lref 1 0→S'.ρ 4=.lref 4 0→S'.μ 1=some (X,false)→ Fr S'.A 21700→HW S' 4 (g++es.flatMap orB) 10400→Q .norm S'):Wp (K' Pg) l516_3 S (Blk 6 Q):=by
 unfold l516_3
 refine Jms (fun (i:Nat) S=>i≤es.length∧S.ρ 1=.lref 1 0∧S.ρ 4=.lref 4 0∧S.μ 1=some (X,false)∧Fr S.A 21700∧S.ρ 118=.slice 7 (es.map Ycb)∧S.ρ 119=iz es.length∧S.ρ 120=iz i∧HW S 4 (g++(es.take i).flatMap orB) 10400∧S.μ 12=none∧S.A 21400=none∧S.A 21500=none∧S.A 21600=none) (fun i=>es.length-i) 0 ?_ ?_
 ·have hh:=HW.head (Wv:=[12]) (Wa:=[21400,21500,21600]) (h1:=10400) hT rfl rfl
  exact⟨Gae _,Jmc s1 rfl,Jmc s4 rfl,Jmb m1 hX rfl,fun x hx=>hh.2.2 x (by omega) (by omega) (hn x hx),Jmc s118 rfl,Jmc s119 rfl,Jmc s120 rfl,by simpa using hh.1,Jma (.inr rfl),hh.2.1 _ rfl,hh.2.1 _ rfl,hh.2.1 _ rfl⟩
 ·intro i S ⟨hi,s1,s4,m1,hn,s118,s119,s120,hT,nn,w21400,w21500,w21600⟩
  have hm:=hT.m
  have hA:=hT.a
  cases c1:decide ((i:Int)<(es.length:Int)) with
  |false=>
   have hil:i=es.length:=by have:=Gk c1;omega
   rw[hil,GP] at hT
   simp only[go_sem,s119,s120,c1]
   exact hq _ (by simp only[go_sem,s1]) (by simp only[go_sem,s4]) m1 hn ⟨hT.m,hT.a⟩
  |true=>
   have hlt:=Yi c1
   obtain⟨e,hx,-⟩:=Jl8 hlt
   have hinc:=inc64q (i:=i) (by omega)
   have hv:=he e (List.mem_of_getElem? hx)
   have htk:es.take (i+1)=es.take i++[e]:=by rw[GT,hx];rfl
   have hbl:=YaI (W:=orB) (l:=es) (i:=i+1)
   have hfull:g++(es.take (i+1)).flatMap orB=g++(es.take i).flatMap orB++Yc [e.client,e.req,e.lease]++Yf [e.at_]++Yc [e.err]:=by rw[htk];simp[orB,Yag,Ye,Yc,Yf,nB]
   rw[htk,GZ,Gc] at hbl
   simp only[Gu,GB,Gz,orB,nB,←Yag,Gc] at hbl
   generalize hg:g++(es.take i).flatMap orB=g1 at *
   have hgl:g1.length=g.length+((es.take i).flatMap orB).length:=by rw[←hg,Gc]
   have q1:=YaK h526 (g1) [e.client,e.req,e.lease] (Gg.2 ⟨YX hv.1.1,Gg.2 ⟨YX hv.1.2.1,Gg.2 ⟨YX hv.1.2.2.1,fun _ h=>by cases h⟩⟩⟩) (by simp only[Ye,Yc,Yf,Gu,GB,Gz,Gc,List.length_cons,List.length_nil];omega)
   have q2:=Ycn h537 (g1++Yc [e.client,e.req,e.lease]) [e.at_] (Gg.2 ⟨hv.1.2.2.2.1,fun _ h=>by cases h⟩) (by simp only[Ye,Yc,Yf,Gu,GB,Gz,Gc,List.length_cons,List.length_nil];omega)
   have q3:=YaK h526 (g1++Yc [e.client,e.req,e.lease]++Yf [e.at_]) [e.err] (Gg.2 ⟨YX hv.1.2.2.2.2,fun _ h=>by cases h⟩) (by simp only[Ye,Yc,Yf,Gu,GB,Gz,Gc,List.length_cons,List.length_nil];omega)
   simp only[Gq,Gt] at q1 q2 q3
   simp only[go_sem] at q2
   generalize Yc [e.client,e.req,e.lease]=b1 at *
   generalize Yf [e.at_]=b2 at *
   generalize Yc [e.err]=b3 at *
   simp only[go_sem,Jmd,s1,s4,s118,s119,s120,c1,hx,hm,hA,nn,w21400,w21500,w21600,q1,q2,q3,hinc,Gl]
   have h4:=fun {S:St} (h:HW S 4 (g1++b1++b2++b3) 21600)=>HW.head (Wv:=[12]) (Wa:=[21400,21500,21600]) (h1:=10400) h rfl rfl
   refine⟨i+1,by omega,by omega,Jmc (by simp only[go_sem,s1]) rfl,Jmc (by simp only[go_sem,s4]) rfl,Jmb (by simp only[go_sem,m1]) hX rfl,fun x hx=>(h4 ⟨?_,?_⟩).2.2 x (by omega) (by omega) ((show Fr _ 21700 from by repeat' first|exact hn|refine Fr.up ?_ (by omega)) x hx),Jmc (by simp only[go_sem,s118]) rfl,Jmc (by simp only[go_sem,s119]) rfl,Jmc (by simp only[go_sem]) rfl,(h4 ⟨?_,?_⟩).1.out hfull.symm,Jma (.inr rfl),(h4 ⟨?_,?_⟩).2.1 _ rfl,(h4 ⟨?_,?_⟩).2.1 _ rfl,(h4 ⟨?_,?_⟩).2.1 _ rfl⟩
   all_goals simp only[go_sem,Gc]
theorem YbF {n:Nat} (h:n<2 ^ 63):∀m∈[(n:Int)],0≤m∧m<2 ^ 63:=by
 intro m hm;have:=List.mem_singleton.1 hm;subst this;omega
def H516 (Pg:PgT):Prop:=Pg 516=some (.code F516)∧H328 Pg∧H485 Pg∧H526 Pg∧H527 Pg∧H528 Pg∧H537 Pg∧H538 Pg
theorem K516 (h:H516 Pg) (d:Drc) (hd:SmD d) (hl:DrL d) (hb:Yaf d=true→(drB d).length+2 ^ 27≤2 ^ 29) :
  K' Pg 516 [.agg (Y6 d)]=some (if Yaf d=true then .tuple [.str (drB d),iz 0] else .tuple [.str [],iz 1]):=by
 obtain⟨h,h328,h485,h526,h527,h528,h537,h538⟩:=h
 have k1:=K328 h328 d hd
 simp only[go_sem] at k1
 refine JdB h rfl ?_
 cases c1:Yaf d with
 |false=>
  rw[GA (by simp)]
  rw[c1] at k1
  simp only[F516,c516,go_sem,k1]
 |true=>
 rw[GC rfl]
 rw[c1] at k1
 replace hb:=hb c1
 obtain⟨⟨⟨p1,p2⟩,⟨i1,i2⟩,n1,⟨l1,l2⟩,⟨s1,s2⟩,mk,jb,⟨r1,r2⟩⟩,-⟩:=YdF c1 hl
 have hpl:∀p∈d.places,PlS p:=fun p hp=>⟨p2 p hp,by have:=(hl.pl p hp).1;omega,by have:=(hl.pl p hp).2;omega⟩
 have hin:∀p∈d.cells,InS p:=fun p hp=>⟨i2 p hp,hl.cell p hp⟩
 have hjb:JbS d.job:=⟨jb,by have:=hl.key;omega,fun t ht=>by have:=hl.parts.2 t ht;omega,by have:=hl.span;omega,hl.wait,hl.mem⟩
 have hdB:drB d=Yc [(d.places.length:Int)]++d.places.flatMap plB++Yc [(d.cells.length:Int)]++d.cells.flatMap inB++Yc [d.next,(d.leases.length:Int)]++d.leases.flatMap leB++Yc [(d.lows.length:Int)]++Yf d.lows++Yf [d.mark]++jbW d.job++Yc [(d.opened.length:Int)]++d.opened.flatMap orB:=by
  simp only[drB,YP,Yc,Yf,nB,Yez,Gu,GB,Gz,Int.toNat_natCast,GQ]
 rw[hdB] at hb ⊢
 have x1:(Yc [(d.places.length:Int)]).length≤9:=Yah (l:=[(d.places.length:Int)]) (by simp;omega)
 have x2:(Yc [(d.cells.length:Int)]).length≤9:=Yah (l:=[(d.cells.length:Int)]) (by simp;omega)
 simp only[Gc] at hb
 have y1:=Y5 Ycg p2
 have y2:=Y5 Yc2 i2
 have y3:=Y5 Yc7 l2
 have y4:=Y5 Ydb r2
 have q1:=YaK h526 [] [(d.places.length:Int)] (YbF p1) (by simp only[List.length_nil,List.length_cons];omega)
 simp only[Gq,Gt,List.nil_append] at q1
 simp only[F516,c516,go_sem,Jmd,k1,q1,Gl]
 refine YeJ h526 h528 (g:=Yc [(d.places.length:Int)]) (es:=d.places) (X:=Y6 d) hpl (by omega) (by omega) rfl (by simp only[go_sem]) (by simp only[go_sem]) (by simp only[go_sem]) (by simp only[go_sem]) (by simp only[go_sem]) (by simp only[go_sem]) (show Fr _ _ from by repeat' first|exact fun x hx=>rfl|refine Fr.up ?_ (by omega)) (by simp only[go_sem]) (by simp only[go_sem]) (by simp only[go_sem]) (a:=20000) (by omega) ⟨by simp only[go_sem],by simp only[go_sem]⟩ fun S1 t1 t4 u1 n8 n10 n12 hn1 hT1=>?_
 have hm1:=hT1.m
 have hA1:=hT1.a
 simp only[go_sem] at u1
 have a1:=hn1 20300 (by omega)
 have q2:=YaK h526 (Yc [(d.places.length:Int)]++d.places.flatMap plB) [(d.cells.length:Int)] (YbF i1) (by simp only[Gc,List.length_cons,List.length_nil];omega)
 simp only[Gq,Gt] at q2
 simp only[go_sem,Jmd,t1,t4,u1,hm1,hA1,a1,n8,q2,Gl]
 refine Yew h526 h527 h485 (g:=Yc [(d.places.length:Int)]++d.places.flatMap plB++Yc [(d.cells.length:Int)]) (es:=d.cells) (X:=Y6 d) hin (by omega) (by simp only[Gc];omega) rfl (by simp only[go_sem,t1]) (by simp only[go_sem,t4]) (by simp only[go_sem,u1]) (by simp only[go_sem,n10]) (by simp only[go_sem,n12]) (show Fr _ _ from by repeat' first|exact fun x hx=>hn1 x (by omega)|refine Fr.up ?_ (by omega)) (by simp only[go_sem]) (by simp only[go_sem]) (by simp only[go_sem]) (a:=20300) (by omega) ⟨by simp only[go_sem,Gc],by simp only[go_sem]⟩ fun S2 t1 t4 u2 n10 n12 hn2 hT2=>?_
 have hm2:=hT2.m
 have hA2:=hT2.a
 simp only[go_sem] at u2
 have a2:=hn2 20600 (by omega)
 have q3:=YaK h526 (Yc [(d.places.length:Int)]++d.places.flatMap plB++Yc [(d.cells.length:Int)]++d.cells.flatMap inB) [d.next,(d.leases.length:Int)] (Gg.2 ⟨YX n1,YbF l1⟩) (by simp only[Gc,List.length_cons,List.length_nil];omega)
 simp only[Gq,Gt] at q3
 simp only[go_sem,Jmd,t1,t4,u2,hm2,hA2,a2,q3,Gl]
 refine YeF h526 h537 (g:=Yc [(d.places.length:Int)]++d.places.flatMap plB++Yc [(d.cells.length:Int)]++d.cells.flatMap inB++Yc [d.next,(d.leases.length:Int)]) (es:=d.leases) (X:=Y6 d) l2 (by omega) (by simp only[Gc];omega) rfl (by simp only[go_sem,t1]) (by simp only[go_sem,t4]) (by simp only[go_sem,u2]) (by simp only[go_sem,n12]) (show Fr _ _ from by repeat' first|exact fun x hx=>hn2 x (by omega)|refine Fr.up ?_ (by omega)) (by simp only[go_sem]) (by simp only[go_sem]) (by simp only[go_sem]) (a:=20600) (by omega) ⟨by simp only[go_sem,Gc],by simp only[go_sem]⟩ fun S3 t1 t4 u3 n12 hn3 hT3=>?_
 have hm3:=hT3.m
 have hA3:=hT3.a
 simp only[go_sem] at u3
 have b1:=hn3 20900 (by omega)
 have b2:=hn3 21000 (by omega)
 have b3:=hn3 21100 (by omega)
 have b4:=hn3 21200 (by omega)
 have b5:=hn3 21300 (by omega)
 have q4:=YaK h526 (Yc [(d.places.length:Int)]++d.places.flatMap plB++Yc [(d.cells.length:Int)]++d.cells.flatMap inB++Yc [d.next,(d.leases.length:Int)]++d.leases.flatMap leB) [(d.lows.length:Int)] (YbF s1) (by simp only[Gc,List.length_cons,List.length_nil];omega)
 simp only[Gq,Gt] at q4
 have q5:=Ycn h537 (Yc [(d.places.length:Int)]++d.places.flatMap plB++Yc [(d.cells.length:Int)]++d.cells.flatMap inB++Yc [d.next,(d.leases.length:Int)]++d.leases.flatMap leB++Yc [(d.lows.length:Int)]) d.lows (s2) (by simp only[Gc,List.length_cons,List.length_nil];omega)
 have q6:=Ycn h537 (Yc [(d.places.length:Int)]++d.places.flatMap plB++Yc [(d.cells.length:Int)]++d.cells.flatMap inB++Yc [d.next,(d.leases.length:Int)]++d.leases.flatMap leB++Yc [(d.lows.length:Int)]++Yf d.lows) [d.mark] (Gg.2 ⟨mk,fun _ h=>by cases h⟩) (by simp only[Gc,List.length_cons,List.length_nil];omega)
 simp only[Gq,Gt] at q6
 simp only[go_sem] at q6
 have q7:=k538n h538 (Yc [(d.places.length:Int)]++d.places.flatMap plB++Yc [(d.cells.length:Int)]++d.cells.flatMap inB++Yc [d.next,(d.leases.length:Int)]++d.leases.flatMap leB++Yc [(d.lows.length:Int)]++Yf d.lows++Yf [d.mark]) d.job hjb (by simp only[Gc];omega)
 simp only[go_sem] at q7
 have q8:=YaK h526 (Yc [(d.places.length:Int)]++d.places.flatMap plB++Yc [(d.cells.length:Int)]++d.cells.flatMap inB++Yc [d.next,(d.leases.length:Int)]++d.leases.flatMap leB++Yc [(d.lows.length:Int)]++Yf d.lows++Yf [d.mark]++jbW d.job) [(d.opened.length:Int)] (YbF r1) (by simp only[Gc,List.length_cons,List.length_nil];omega)
 simp only[Gq,Gt] at q8
 simp only[go_sem,Jmd,t1,t4,u3,hm3,hA3,b1,b2,b3,b4,b5,q4,q5,q6,q7,q8,Gl]
 refine YeI h526 h537 (g:=Yc [(d.places.length:Int)]++d.places.flatMap plB++Yc [(d.cells.length:Int)]++d.cells.flatMap inB++Yc [d.next,(d.leases.length:Int)]++d.leases.flatMap leB++Yc [(d.lows.length:Int)]++Yf d.lows++Yf [d.mark]++jbW d.job++Yc [(d.opened.length:Int)]) (es:=d.opened) (X:=Y6 d) r2 (by omega) (by simp only[Gc];omega) rfl (by simp only[go_sem,t1]) (by simp only[go_sem,t4]) (by simp only[go_sem,u3]) (show Fr _ _ from by repeat' first|exact fun x hx=>hn3 x (by omega)|refine Fr.up ?_ (by omega)) (by simp only[go_sem]) (by simp only[go_sem]) (by simp only[go_sem]) (a:=21300) (by omega) ⟨by simp only[go_sem,Gc],by simp only[go_sem]⟩ fun S4 t1 t4 u4 hn4 hT4=>?_
 have hm4:=hT4.m
 have hA4:=hT4.a
 have hbt:=JdZ (Yc [(d.places.length:Int)]++d.places.flatMap plB++Yc [(d.cells.length:Int)]++d.cells.flatMap inB++Yc [d.next,(d.leases.length:Int)]++d.leases.flatMap leB++Yc [(d.lows.length:Int)]++Yf d.lows++Yf [d.mark]++jbW d.job++Yc [(d.opened.length:Int)]++d.opened.flatMap orB)
 simp only[Yb6] at hbt
 simp only[go_sem,t4,hm4,hA4,hbt,Gl]
def YaR:Stamp:=⟨0,0,0⟩
def YaC:Jb:=⟨0,0,0,0,0,0,0,0,[],[],0,0,0,⟨[],[]⟩,[],YaR,[]⟩
def SmE (d:Drc):Prop:=d.places.length≤10000∧d.cells.length≤10000∧d.lows.length≤10000∧SmD d
structure Cmd where
 kind:Int
 shard:Int
 other:Int
 to:Int
 key:List UInt8
 mem:List Int
@[go_sem] def YdO (c:Cmd):List V:=[iz c.kind,iz c.shard,iz c.other,iz c.to,.str c.key,Yh c.mem]
@[go_sem] def eDE (x:Drc×Int):V:=.tuple [.agg (Y6 x.1),iz x.2]
def Ya1 (d:Drc):Drc×Int:=
 if decide (d.job.kind=1)&&decide (d.job.step≤3) then ({d with job:={d.job with step:=6}},0)
 else if (decide (d.job.kind=2)||decide (d.job.kind=3))&&decide (d.job.step=1) then ({d with job:={d.job with step:=7}},0) else (d,7)
def Ybe (c:Cmd) (n:Int):Jb:={YaC with kind:=c.kind,step:=1,id:=n}
def YbG (d:Drc) (c:Cmd):Drc×Int:=
 if decide (c.to<1)||(decide (3<c.to)||!Ya7 c.mem) then (d,1) else match d.cells[(c.to-1).toNat]? with
  |none=>(d,0)
  |some i=>if !i.whole then (d,11) else if !decide (c.mem.headD 0∈i.mem) then (d,9) else ({d with job:={Ybe c d.next with cell:=c.to,mem:=c.mem},next:=d.next+1},0)
def Yan (d:Drc) (c:Cmd) (e:Int) (j:Jb):Drc×Int:=
 if !decide (e=0) then (d,e) else ({d with job:={j with shard:=c.shard,cell:=((ofA d.places c.shard).getD YR).cell,epoch:=((ofA d.places c.shard).getD YR).epoch},next:=d.next+1},0)
def YbL (d:Drc) (c:Cmd):Drc×Int:=
 if decide (c.kind=5) then YbG d c
 else if decide (c.kind=1) then Yan d c (YaA d.places c.shard c.to d.next).2 {Ybe c d.next with to:=c.to}
 else if decide (c.kind=2) then Yan d c (YG d.places c.shard c.key d.next d.next).2 {Ybe c d.next with key:=c.key,other:=d.next}
 else Yan d c (YT d.places c.shard c.other d.next).2 {Ybe c d.next with other:=c.other}
def Yba (d:Drc) (c:Cmd):Drc×Int:=
 if !Yaf d||(decide (c.kind<1)||(decide (6<c.kind)||decide (c.kind=4))) then (d,1)
 else if decide (c.kind=6) then Ya1 d else if !decide (d.job.kind=0) then (d,11) else if decide (d.next=1099511627776) then (d,6) else YbL d c
def H352 (Pg:PgT):Prop:=Pg 352=some (.code F352)
theorem K352 (h:H352 Pg) (d:Drc):K' Pg 352 [.agg (Y6 d)]=some (eDE (Ya1 d)):=by
 refine JdB h rfl ?_;cases c1:decide (d.job.kind=1) with
 |true=>
  cases c2:decide (d.job.step≤3) with
  |true=>simp only[go_sem,c1,c2,Ya1]
  |false=>
   have c3:decide (d.job.kind=2)=false:=Ge (by have:=Gp c1;omega);have c4:decide (d.job.kind=3)=false:=Ge (by have:=Gp c1;omega);simp only[go_sem,c1,c2,c3,c4,Ya1]
 |false=>
 cases c3:decide (d.job.kind=2) with
 |true=>cases c5:decide (d.job.step=1)<;>simp only[go_sem,c1,c3,c5,Ya1]
 |false=>cases c4:decide (d.job.kind=3)<;>cases c5:decide (d.job.step=1)<;>simp only[go_sem,c1,c3,c4,c5,Ya1]
structure Msg where
 kind:Int
 from_:Int
 to:Int
 shard:Int
 epoch:Int
 move:Int
 lease:Int
 n:Int
 of_:Int
 at_:Stamp
 text:List UInt8
 req:Rq
 ans:Ans
 places:List Place
 mem:List Int
@[go_sem] def Ya2 (m:Msg):List V:=[iz m.kind,iz m.from_,iz m.to,iz m.shard,iz m.epoch,iz m.move,iz m.lease,iz m.n,iz m.of_,iz m.at_.wall,iz m.at_.tick,iz m.at_.node,.str m.text,iz m.req.client,iz m.req.req,iz m.req.kind,.str m.req.key,.str m.req.value,.bool m.req.had,.str m.req.old,iz m.req.at_.wall,iz m.req.at_.tick,iz m.req.at_.node,.str m.req.hi,iz m.req.limit,iz m.ans.err,iz m.ans.at_.wall,iz m.ans.at_.tick,iz m.ans.at_.node,.bool m.ans.found,.str m.ans.val,YI m.ans.items,.str m.ans.next,.bool m.ans.more,Ys m.places,Yh m.mem]
def SmM (m:Msg):Prop:=m.ans.items.length≤10000∧m.places.length≤10000∧m.mem.length≤10000
def Yb2 (m:Msg):Bool:=(!decide (m.kind<1)&&(!decide (37<m.kind)&&(!decide (m.ans.err<0)&&(!decide (16<m.ans.err)&&(!decide (8<(m.ans.items.length:Int))&&(!decide (8<(m.places.length:Int))&&!decide (8<(m.mem.length:Int))))))))&&(([m.kind,m.from_,m.to,m.shard,m.epoch,m.move,m.lease,m.n,m.of_,m.req.client,m.req.req,m.req.kind,m.req.limit]++(m.places.flatMap fun p=>[p.shard,p.cell,p.epoch])++m.mem).all YH&&(Ya m.at_&&(Ya m.req.at_&&Ya m.ans.at_)))
def YbT (m:Msg):List Int:=[m.kind,m.from_,m.to,m.shard,m.epoch,m.move,m.lease,m.n,m.of_,m.req.client,m.req.req,m.req.kind,m.req.limit]
def Ya8 (l:List Place):List Int:=l.flatMap fun p=>[p.shard,p.cell,p.epoch]
def Ybf (m:Msg):List Int:=YbT m++Ya8 m.places++m.mem
theorem Ydv {l:List Place} {i:Nat} {x:Place} (h:l[i]?=some x):Ya8 (l.take (i+1))=Ya8 (l.take i)++[x.shard,x.cell,x.epoch]:=by
 rw[Yx h];simp[Ya8]
theorem YbA (l:List Place):(Ya8 l).length=3*l.length:=by
 induction l with
 |nil=>rfl
 |cons x l ih=>
  have:Ya8 (x::l)=[x.shard,x.cell,x.epoch]++Ya8 l:=by simp[Ya8]
  rw[this,Gc,ih];simp;omega
def H366 (Pg:PgT):Prop:=Pg 366=some (.code F366)
theorem K366 (h:H366 Pg) (m:Msg) (hp:m.places.length≤4194304) (hm:m.mem.length≤4194304):K' Pg 366 [.agg (Ya2 m)]=some (Yh (Ybf m)):=by
 refine JdB h rfl ?_;simp only[go_sem];unfold l366_0;refine Jms (fun (i:Nat) S=>i≤m.places.length∧S.ρ 1=.lref 1 0∧S.μ 1=some (Ya2 m,false)∧S.ρ 3=.own 36 1 (13+3*i)∧S.A 36=some (1,(YbT m++Ya8 (m.places.take i)).map (fun a=>[iz a]),.live)∧S.μ 5=none∧S.ρ 38=Ys m.places∧S.ρ 39=iz m.places.length∧S.ρ 40=iz i) (fun i=>m.places.length-i) 0 ?_ ?_
 ·simp[go_sem,YbT,Ya8]
 ·intro i S ⟨hi,s1,m1,s3,a36,m5,s38,s39,s40⟩;simp only[go_sem,s39,s40];refine Jmt (fun hlt=>?_) (fun hlt=>?_)
  ·have hlt:=Yi hlt;obtain⟨x,hx,-⟩:=Jl8 hlt;have hl:(YbT m).length+(Ya8 (m.places.take i)).length=13+3*i:=by
    rw[YbA,Gy];have:(YbT m).length=13:=rfl;omega
   have hlim:13+3*i+3≤lim:=by simp only[lim];omega
   simp only[go_sem,s1,m1,s3,a36,m5,s38,s39,s40,hx,hl,hlim,Gl];exact⟨i+1,by omega,by omega,by congr 1,by rw[Ydv hx];simp,by rw[Yj hlt (by omega)]⟩
  ·have hlt:=Yo hi hlt;subst hlt;rw[GP] at a36;have hl:(YbT m).length+(Ya8 m.places).length=13+3*m.places.length:=by rw[YbA];rfl
   have hlim:13+3*m.places.length+m.mem.length≤lim:=by simp only[lim];omega
   simp only[go_sem,s1,m1,s3,a36,hl,hlim,Gl,Ybf,Gab]
def H367 (Pg:PgT):Prop:=Pg 367=some (.code F367)
theorem K367 (h:H367 Pg) (n:Int):K' Pg 367 [iz n]=some (.bool (decide (n<0)||decide (1099511627776<n))):=by
 refine JdB h rfl ?_;cases c:decide (n<0)<;>simp only[go_sem,c]
def H341 (Pg:PgT):Prop:=Pg 341=some (.code F341)∧H28 Pg∧H67 Pg∧H366 Pg∧H367 Pg
theorem K341w (h:H341 Pg) (m:Msg) (hm:m.places.length≤4194304∧m.mem.length≤4194304):K' Pg 341 [.agg (Ya2 m)]=some (.bool (Yb2 m)):=by
 obtain⟨h,h28,h67,h366,h367⟩:=h;obtain⟨hp,hmm⟩:=hm;have k366:=K366 h366 m hp hmm;have k67:=K67 h67 (Ybf m) 367 [] (fun n=>decide (n<0)||decide (1099511627776<n)) (by
  unfold Ybf;rw[Gc,Gc,YbA];have:(YbT m).length=13:=rfl;omega) rfl (fun x _=>K367 h367 x)
 have e:(Ybf m).any (fun n=>decide (n<0)||decide (1099511627776<n))=!(Ybf m).all YH:=by
  have:=Yb9 (m:=0) (l:=Ybf m);have ef:(fun n=>YH n)=frQ 0:=rfl
  show _=!(Ybf m).all (frQ 0)
  rw[←this,Bool.not_not]
 rw[e] at k67;have k28a:=K28 h28 m.at_;have k28b:=K28 h28 m.req.at_;have k28c:=K28 h28 m.ans.at_;have hq:Yb2 m=((!decide (m.kind<1)&&(!decide (37<m.kind)&&(!decide (m.ans.err<0)&&(!decide (16<m.ans.err)&&(!decide (8<(m.ans.items.length:Int))&&(!decide (8<(m.places.length:Int))&&!decide (8<(m.mem.length:Int))))))))&&((Ybf m).all YH&&(Ya m.at_&&(Ya m.req.at_&&Ya m.ans.at_)))):=rfl;rw[hq];generalize (Ybf m).all YH=nq at k67 ⊢;generalize Ybf m=nl at k366 k67;simp only[Yh,Yg,Ya2,YI,Ys] at k366 k67 k28a k28b k28c;clear hp hmm e hq h28 h67 h366 h367;refine JdB h rfl ?_;clear h;cases c1:decide (m.kind<1) with
 |true=>simp only[go_sem,c1]
 |false=>
 cases c2:decide (37<m.kind) with
 |true=>simp only[go_sem,c1,c2]
 |false=>
 cases c3:decide (m.ans.err<0) with
 |true=>simp only[go_sem,c1,c2,c3]
 |false=>
 cases c4:decide (16<m.ans.err) with
 |true=>simp only[go_sem,c1,c2,c3,c4]
 |false=>
 cases c5:decide (8<(m.ans.items.length:Int)) with
 |true=>simp only[go_sem,c1,c2,c3,c4,c5]
 |false=>
 cases c6:decide (8<(m.places.length:Int)) with
 |true=>simp only[go_sem,c1,c2,c3,c4,c5,c6]
 |false=>
 cases c7:decide (8<(m.mem.length:Int)) with
 |true=>simp only[go_sem,c1,c2,c3,c4,c5,c6,c7]
 |false=>
 cases nq with
 |false=>simp only[go_sem,c1,c2,c3,c4,c5,c6,c7,k366,k67]
 |true=>
 cases c8:Ya m.at_ with
 |false=>simp only[go_sem,c1,c2,c3,c4,c5,c6,c7,k366,k67,k28a,c8]
 |true=>
 cases c9:Ya m.req.at_ with
 |false=>simp only[go_sem,c1,c2,c3,c4,c5,c6,c7,k366,k67,k28a,k28b,c8,c9]
 |true=>simp only[go_sem,c1,c2,c3,c4,c5,c6,c7,k366,k67,k28a,k28b,k28c,c8,c9]
theorem K341 (h:H341 Pg) (m:Msg) (hm:SmM m):K' Pg 341 [.agg (Ya2 m)]=some (.bool (Yb2 m)):=K341w h m ⟨by have:=hm.2.1;omega,by have:=hm.2.2;omega⟩
def itB (x:List UInt8×List UInt8):List UInt8:=Yt x.1++Yt x.2
def ItV (x:List UInt8×List UInt8):Prop:=TV x.1∧TV x.2
abbrev MsT:=Int×Int×Int×Int×Int×Int×Int×Int×Int×Stamp×List UInt8×Int×Int×Int×List UInt8×List UInt8×Bool×List UInt8×Stamp×List UInt8×Int×Int×Stamp×Bool×List UInt8×List (List UInt8×List UInt8)×List UInt8×Bool×List Place×List Int
def YdU (p:MsT):Msg:=
 ⟨p.1,p.2.1,p.2.2.1,p.2.2.2.1,p.2.2.2.2.1,p.2.2.2.2.2.1,p.2.2.2.2.2.2.1,p.2.2.2.2.2.2.2.1,p.2.2.2.2.2.2.2.2.1,p.2.2.2.2.2.2.2.2.2.1,p.2.2.2.2.2.2.2.2.2.2.1,⟨p.2.2.2.2.2.2.2.2.2.2.2.1,p.2.2.2.2.2.2.2.2.2.2.2.2.1,p.2.2.2.2.2.2.2.2.2.2.2.2.2.1,p.2.2.2.2.2.2.2.2.2.2.2.2.2.2.1,p.2.2.2.2.2.2.2.2.2.2.2.2.2.2.2.1,p.2.2.2.2.2.2.2.2.2.2.2.2.2.2.2.2.1,p.2.2.2.2.2.2.2.2.2.2.2.2.2.2.2.2.2.1,p.2.2.2.2.2.2.2.2.2.2.2.2.2.2.2.2.2.2.1,p.2.2.2.2.2.2.2.2.2.2.2.2.2.2.2.2.2.2.2.1,p.2.2.2.2.2.2.2.2.2.2.2.2.2.2.2.2.2.2.2.2.1⟩,⟨p.2.2.2.2.2.2.2.2.2.2.2.2.2.2.2.2.2.2.2.2.2.1,p.2.2.2.2.2.2.2.2.2.2.2.2.2.2.2.2.2.2.2.2.2.2.1,p.2.2.2.2.2.2.2.2.2.2.2.2.2.2.2.2.2.2.2.2.2.2.2.1,p.2.2.2.2.2.2.2.2.2.2.2.2.2.2.2.2.2.2.2.2.2.2.2.2.1,p.2.2.2.2.2.2.2.2.2.2.2.2.2.2.2.2.2.2.2.2.2.2.2.2.2.1,p.2.2.2.2.2.2.2.2.2.2.2.2.2.2.2.2.2.2.2.2.2.2.2.2.2.2.1,p.2.2.2.2.2.2.2.2.2.2.2.2.2.2.2.2.2.2.2.2.2.2.2.2.2.2.2.1⟩,p.2.2.2.2.2.2.2.2.2.2.2.2.2.2.2.2.2.2.2.2.2.2.2.2.2.2.2.2.1,p.2.2.2.2.2.2.2.2.2.2.2.2.2.2.2.2.2.2.2.2.2.2.2.2.2.2.2.2.2⟩
def YeQ (x:Msg):MsT:=(x.kind,x.from_,x.to,x.shard,x.epoch,x.move,x.lease,x.n,x.of_,x.at_,x.text,x.req.client,x.req.req,x.req.kind,x.req.key,x.req.value,x.req.had,x.req.old,x.req.at_,x.req.hi,x.req.limit,x.ans.err,x.ans.at_,x.ans.found,x.ans.val,x.ans.items,x.ans.next,x.ans.more,x.places,x.mem)
def msB (x:Msg):List UInt8:=nB x.kind++(nB x.from_++(nB x.to++(nB x.shard++(nB x.epoch++(nB x.move++(nB x.lease++(nB x.n++(nB x.of_++(stB x.at_++(Yt x.text++(nB x.req.client++(nB x.req.req++(nB x.req.kind++(Yt x.req.key++(Yt x.req.value++(Yq x.req.had++(Yt x.req.old++(stB x.req.at_++(Yt x.req.hi++(nB x.req.limit++(nB x.ans.err++(stB x.ans.at_++(Yq x.ans.found++(Yt x.ans.val++(YP itB x.ans.items++(Yt x.ans.next++(Yq x.ans.more++(YP plB x.places++(YP nB x.mem)))))))))))))))))))))))))))))
def MsV (x:Msg):Prop:=(NV x.kind∧NV x.from_∧NV x.to∧NV x.shard∧NV x.epoch∧NV x.move∧NV x.lease∧NV x.n∧NV x.of_∧Ya x.at_=true∧TV x.text∧NV x.req.client∧NV x.req.req∧NV x.req.kind∧TV x.req.key∧TV x.req.value∧True∧TV x.req.old∧Ya x.req.at_=true∧TV x.req.hi∧NV x.req.limit∧NV x.ans.err∧Ya x.ans.at_=true∧True∧TV x.ans.val∧LV ItV x.ans.items∧TV x.ans.next∧True∧LV PlV x.places∧LV NV x.mem)∧YdU (YeQ x)=x
structure MsL (m:Msg):Prop where
 text:m.text.length≤2 ^ 24
 key:m.req.key.length≤2 ^ 24
 value:m.req.value.length≤2 ^ 24
 old:m.req.old.length≤2 ^ 24
 hi:m.req.hi.length≤2 ^ 24
 val:m.ans.val.length≤2 ^ 24
 next:m.ans.next.length≤2 ^ 24
 items:∀p∈m.ans.items,p.1.length≤2 ^ 24∧p.2.length≤2 ^ 24
 places:∀p∈m.places,p.span.lo.length≤2 ^ 24∧p.span.hi.length≤2 ^ 24
theorem tv {t:List UInt8} (h:t.length≤2 ^ 24):TV t:=by show _<_;omega
theorem YeG {m:Msg} (h:Yb2 m=true) (hl:MsL m):MsV m:=by
 simp only[Yb2,List.all_append,List.all_cons,List.all_nil,List.all_flatMap,Gi,GJ,GN,Gv,and_true] at h;obtain⟨⟨a1,a2,a3,a4,a5,a6,a7⟩,⟨⟨⟨b1,b2,b3,b4,b5,b6,b7,b8,b9,b10,b11,b12,b13⟩,c1⟩,c2⟩,d1,d2,d3⟩:=h;have z:(0:Int)≤0:=Int.le_refl 0;have f:∀{n},YH n=true→NV n:=fun h=>Ya9 z h;refine⟨⟨f b1,f b2,f b3,f b4,f b5,f b6,f b7,f b8,f b9,d1,tv hl.text,f b10,f b11,f b12,tv hl.key,tv hl.value,Gm,tv hl.old,d2,tv hl.hi,f b13,nv (by omega) (by omega),d3,Gm,tv hl.val,⟨by omega,fun p hp=>⟨tv (hl.items p hp).1,tv (hl.items p hp).2⟩⟩,tv hl.next,Gm,⟨by omega,fun p hp=>?_⟩,⟨by omega,fun n hn=>f (c2 n hn)⟩⟩,rfl⟩;have:=c1 p hp;exact⟨⟨tv (hl.places p hp).1,tv (hl.places p hp).2,f this.1,f this.2.1,f this.2.2⟩,rfl⟩
end Sg
