/- PRINTED: the functions of the program, as the machine needs them. -/
import Derived.Test.YtomalcfghdaghaaGreatDoorAmTab
import Derived.Test.YtomalcfghdaghaaGreatDoorAmX
import Derived.Test.YtomalcfghdaghaaGreatDoorLib0
set_option linter.unusedVariables false
set_option maxRecDepth 100000
set_option maxHeartbeats 0
namespace Go.Proofs.YtomalcfghdaghaaGreatDoor
open Go Go.AM
def hint5:Hint:={ dead:=[(9,[0,1,4,8,9,10,13,14,15,16,17,18,20,21,22,23,24,25,26,27,28,29,30,31,38,39,43,44,45,46,47,48,49,50,51,52,53,55,56,57,58])],gh:=[(1,[.frz 3]),(19,[.frz 11])] }
noncomputable def body5:Code:=match Tryz.f5.body with | some c=>c | none=>.skip
noncomputable def fn5:Fun:={ body:=body5,ntmps:=85,results:=[.tmp 4],types:=[4],hint:=hint5,keep:=.drop }
def E5:Env:={ T:=tiOf,hint:=hint5 }
def hint12:Hint:={ }
noncomputable def body12:Code:=match Tryz.f12.body with | some c=>c | none=>.skip
noncomputable def fn12:Fun:={ body:=body12,ntmps:=43,results:=[.tmp 0],types:=[4],hint:=hint12,keep:=.drop }
def E12:Env:={ T:=tiOf,hint:=hint12 }
def hint14:Hint:={ eqs:=[64],dead:=[(12,[0,2,6,7,8,9,10,11,12,13,14,15,16,17,18,19,20,21,22,23,24,25,26,27,28,29,30,31,32,33,34,35,36,37,38,39,40,41,42,43,44,45,46,50,51,52,53,54,55,56,57,58,59,61,62,63,64,65,66,67,68,69,70])],reH:=[10,20] }
noncomputable def body14:Code:=match Tryz.f14.body with | some c=>c | none=>.skip
noncomputable def fn14:Fun:={ body:=body14,ntmps:=71,results:=[.tmp 2],types:=[31],hint:=hint14,keep:=.drop }
def E14:Env:={ T:=tiOf,hint:=hint14 }
def hint15:Hint:={ }
noncomputable def body15:Code:=match Tryz.f15.body with | some c=>c | none=>.skip
noncomputable def fn15:Fun:={ body:=body15,ntmps:=13,results:=[.tmp 2],types:=[4],hint:=hint15,keep:=.drop }
def E15:Env:={ T:=tiOf,hint:=hint15 }
def hint16:Hint:={ dead:=[(5,[0,2,7,8,9,10,11,12,13,14,15,16,17,18,19,20,21,22,23,24,25,26,27,28,29,30,31,32,33,34,35,36,37,38,39,40,41,42,43,44,45,46]),(10,[4,23,24,25,26,27]),(11,[47,48,49,50,51,52,53,54,55,56,57,58,59,60,61]),(15,[5,47,48,49,50,51]),(16,[62,63,64,65,66,67,68,69,70,71,72,73,74,75,76,77,78,79,80,81,82,83,84,85,86]),(20,[1,6,62,63,64,65,66])],joins:=[10,15,20] }
noncomputable def body16:Code:=match Tryz.f16.body with | some c=>c | none=>.skip
noncomputable def fn16:Fun:={ body:=body16,ntmps:=89,results:=[.tmp 2],types:=[4],hint:=hint16,keep:=.drop }
def E16:Env:={ T:=tiOf,hint:=hint16 }
def hint17:Hint:={ gh:=[(1,[.frz 3])],eqr:=true }
noncomputable def body17:Code:=match Tryz.f17.body with | some c=>c | none=>.skip
noncomputable def fn17:Fun:={ body:=body17,ntmps:=12,results:=[.tmp 4],types:=[51],hint:=hint17,keep:=.drop }
def E17:Env:={ T:=tiOf,hint:=hint17 }
def hint18:Hint:={ }
noncomputable def body18:Code:=match Tryz.f18.body with | some c=>c | none=>.skip
noncomputable def fn18:Fun:={ body:=body18,ntmps:=12,results:=[.tmp 2],types:=[31],hint:=hint18,keep:=.drop }
def E18:Env:={ T:=tiOf,hint:=hint18 }
def hint19:Hint:={ }
noncomputable def body19:Code:=match Tryz.f19.body with | some c=>c | none=>.skip
noncomputable def fn19:Fun:={ body:=body19,ntmps:=16,results:=[.tmp 2],types:=[51],hint:=hint19,keep:=.keep }
def E19:Env:={ T:=tiOf,hint:=hint19 }
def hint20:Hint:={ }
noncomputable def body20:Code:=match Tryz.f20.body with | some c=>c | none=>.skip
noncomputable def fn20:Fun:={ body:=body20,ntmps:=31,results:=[.cell 4 48,.tmp 5],types:=[48,31],hint:=hint20,keep:=.drop }
def E20:Env:={ T:=tiOf,hint:=hint20 }
def hint21:Hint:={ gh:=[(1,[.frz 2])] }
noncomputable def body21:Code:=match Tryz.f21.body with | some c=>c | none=>.skip
noncomputable def fn21:Fun:={ body:=body21,ntmps:=18,results:=[.tmp 3],types:=[4],hint:=hint21,keep:=.drop }
def E21:Env:={ T:=tiOf,hint:=hint21 }
def hint22:Hint:={ }
noncomputable def body22:Code:=match Tryz.f22.body with | some c=>c | none=>.skip
noncomputable def fn22:Fun:={ body:=body22,ntmps:=9,results:=[.tmp 4],types:=[4],hint:=hint22,keep:=.drop }
def E22:Env:={ T:=tiOf,hint:=hint22 }
def hint23:Hint:={ }
noncomputable def body23:Code:=match Tryz.f23.body with | some c=>c | none=>.skip
noncomputable def fn23:Fun:={ body:=body23,ntmps:=8,results:=[.tmp 3],types:=[4],hint:=hint23,keep:=.drop }
def E23:Env:={ T:=tiOf,hint:=hint23 }
def hint24:Hint:={ }
noncomputable def body24:Code:=match Tryz.f24.body with | some c=>c | none=>.skip
noncomputable def fn24:Fun:={ body:=body24,ntmps:=9,results:=[.tmp 4],types:=[4],hint:=hint24,keep:=.keep }
def E24:Env:={ T:=tiOf,hint:=hint24 }
def hint25:Hint:={ }
noncomputable def body25:Code:=match Tryz.f25.body with | some c=>c | none=>.skip
noncomputable def fn25:Fun:={ body:=body25,ntmps:=8,results:=[.tmp 3],types:=[4],hint:=hint25,keep:=.keep }
def E25:Env:={ T:=tiOf,hint:=hint25 }
def hint30:Hint:={ dead:=[(4,[0,1,4,6,7,8,9,10,11,12,13,14,15,16,17,18,19,20,21,22,23,24,25,26,27,28,29,30,31,32,33,34,35,36,37,38,39,40,41,42,43,44,45,46,47,48,49,50,51,52,53,54,55,56,57,58])] }
noncomputable def body30:Code:=match Tryz.f30.body with | some c=>c | none=>.skip
noncomputable def fn30:Fun:={ body:=body30,ntmps:=59,results:=[.tmp 4],types:=[4],hint:=hint30,keep:=.drop }
def E30:Env:={ T:=tiOf,hint:=hint30 }
def hint39:Hint:={ esc:=[4],eqs:=[16,37],dead:=[(6,[0,1,2,3,6,7,8,9,10,11,12,13,14,15,16,17,18,19,20,24,25,26,27,28,29,30,31,32,33,34,35,36,37,38,39,40,41]),(10,[21,22,23,24])],joins:=[10],bld:=[(126,5)] }
noncomputable def body39:Code:=match Tryz.f39.body with | some c=>c | none=>.skip
noncomputable def fn39:Fun:={ body:=body39,ntmps:=44,results:=[.tmp 2,.tmp 3],types:=[9,31],hint:=hint39,keep:=.drop }
def E39:Env:={ T:=tiOf,hint:=hint39 }
def hint40:Hint:={ eqs:=[2] }
noncomputable def body40:Code:=match Tryz.f40.body with | some c=>c | none=>.skip
noncomputable def fn40:Fun:={ body:=body40,ntmps:=4,results:=[.cell 0 43],types:=[43],hint:=hint40,keep:=.drop }
def E40:Env:={ T:=tiOf,hint:=hint40 }
def hint41:Hint:={ }
noncomputable def body41:Code:=match Tryz.f41.body with | some c=>c | none=>.skip
noncomputable def fn41:Fun:={ body:=body41,ntmps:=40,results:=[.cell 2 43,.tmp 3],types:=[43,31],hint:=hint41,keep:=.drop }
def E41:Env:={ T:=tiOf,hint:=hint41 }
def hint44:Hint:={ dead:=[(4,[2,4,5,6,7,8,9,10,11,12,13,14,15,16,17,18,19,20,21,22,44,45,46,47,48,49,50,51,52,53,54,55,56,57,58,59,60,61,62,63,64,65,66]),(8,[3,25,26,27,28,29,30,31,32,33,34,35,36,37,38,39,40,41,42,43])],joins:=[8] }
noncomputable def body44:Code:=match Tryz.f44.body with | some c=>c | none=>.skip
noncomputable def fn44:Fun:={ body:=body44,ntmps:=67,results:=[.tmp 2],types:=[4],hint:=hint44,keep:=.drop }
def E44:Env:={ T:=tiOf,hint:=hint44 }
def hint45:Hint:={ }
noncomputable def body45:Code:=match Tryz.f45.body with | some c=>c | none=>.skip
noncomputable def fn45:Fun:={ body:=body45,ntmps:=60,results:=[.tmp 6],types:=[31],hint:=hint45,keep:=.drop }
def E45:Env:={ T:=tiOf,hint:=hint45 }
def hint46:Hint:={ eqs:=[25,38],dead:=[(5,[4,8,9,10,11,12,14,15,20,21]),(6,[7,16,17,18,19,22,23,24,25,26,27,28,29,30,31,32,33,34,35]),(11,[1,6,16,17,18,19])],reH:=[10,12],joins:=[6,11] }
noncomputable def body46:Code:=match Tryz.f46.body with | some c=>c | none=>.skip
noncomputable def fn46:Fun:={ body:=body46,ntmps:=42,results:=[.tmp 4],types:=[51],hint:=hint46,keep:=.keep }
def E46:Env:={ T:=tiOf,hint:=hint46 }
def hint47:Hint:={ gh:=[(1,[.frz 2])] }
noncomputable def body47:Code:=match Tryz.f47.body with | some c=>c | none=>.skip
noncomputable def fn47:Fun:={ body:=body47,ntmps:=18,results:=[.tmp 3],types:=[4],hint:=hint47,keep:=.drop }
def E47:Env:={ T:=tiOf,hint:=hint47 }
def hint48:Hint:={ }
noncomputable def body48:Code:=match Tryz.f48.body with | some c=>c | none=>.skip
noncomputable def fn48:Fun:={ body:=body48,ntmps:=8,results:=[.tmp 3],types:=[4],hint:=hint48,keep:=.drop }
def E48:Env:={ T:=tiOf,hint:=hint48 }
def hint49:Hint:={ dead:=[(4,[0,3,5,12,13,14,15,16,17,18,19,20,21,22,23,24,25,26,28,32,33,34,35,36,37,38,39,40,41,42,43,44,45,46,47,48,49,50,51,53]),(9,[29,30,31,32]),(13,[1,7,9,10,11,54,55,56,57,58,59,60,62,66,67,68,69,70,71,72,73,74,75,76,77,78,79,80,81,82,83,84,86,87,88,89,90,91]),(20,[63,64,65,66])],joins:=[9,20] }
noncomputable def body49:Code:=match Tryz.f49.body with | some c=>c | none=>.skip
noncomputable def fn49:Fun:={ body:=body49,ntmps:=93,results:=[.cell 2 93,.tmp 3],types:=[93,4],hint:=hint49,keep:=.keep }
def E49:Env:={ T:=tiOf,hint:=hint49 }
def hint51:Hint:={ esc:=[1] }
noncomputable def body51:Code:=match Tryz.f51.body with | some c=>c | none=>.skip
noncomputable def fn51:Fun:={ body:=body51,ntmps:=4,results:=[.tmp 2],types:=[98],hint:=hint51,keep:=.keep }
def E51:Env:={ T:=tiOf,hint:=hint51 }
def hint52:Hint:={ eqs:=[20] }
noncomputable def body52:Code:=match Tryz.f52.body with | some c=>c | none=>.skip
noncomputable def fn52:Fun:={ body:=body52,ntmps:=26,results:=[.tmp 4,.tmp 5],types:=[3,31],hint:=hint52,keep:=.drop }
def E52:Env:={ T:=tiOf,hint:=hint52 }
def hint53:Hint:={ dead:=[(5,[0,1,2,5,6,7,8,10,11,12,13,14,15,16])],joins:=[5] }
noncomputable def body53:Code:=match Tryz.f53.body with | some c=>c | none=>.skip
noncomputable def fn53:Fun:={ body:=body53,ntmps:=18,results:=[.cell 4 48,.tmp 5],types:=[48,31],hint:=hint53,keep:=.drop }
def E53:Env:={ T:=tiOf,hint:=hint53 }
def hint54:Hint:={ eqs:=[10] }
noncomputable def body54:Code:=match Tryz.f54.body with | some c=>c | none=>.skip
noncomputable def fn54:Fun:={ body:=body54,ntmps:=13,results:=[.cell 4 48],types:=[48],hint:=hint54,keep:=.drop }
def E54:Env:={ T:=tiOf,hint:=hint54 }
def hint55:Hint:={ dead:=[(2,[4,5,6,9,10,11,12,13,14,15,16,18])] }
noncomputable def body55:Code:=match Tryz.f55.body with | some c=>c | none=>.skip
noncomputable def fn55:Fun:={ body:=body55,ntmps:=19,results:=[.tmp 4],types:=[3],hint:=hint55,keep:=.drop }
def E55:Env:={ T:=tiOf,hint:=hint55 }
def hint56:Hint:={ eqs:=[15],dead:=[(2,[4,5,6,9,10,11,12,13,14,15,16,18])] }
noncomputable def body56:Code:=match Tryz.f56.body with | some c=>c | none=>.skip
noncomputable def fn56:Fun:={ body:=body56,ntmps:=19,results:=[.tmp 4],types:=[3],hint:=hint56,keep:=.keep }
def E56:Env:={ T:=tiOf,hint:=hint56 }
def hint68:Hint:={ esc:=[11],eqs:=[59],dead:=[(3,[0,3,5,6,7,8,9,10,11,12,13,17,18,19,20,21,22,23,24,25,26,27,28,29,30,31,32,33,34,35,36,37,38,39,40,42,43,44,45,46,47,48,49,50,51,52,53,54,55,56,57,58,59,60,62,63,64,65,66,67,68,69,70,71,72,73]),(12,[1,14,15,16,17])],reH:=[2,10,11],joins:=[12] }
noncomputable def body68:Code:=match Tryz.f68.body with | some c=>c | none=>.skip
noncomputable def fn68:Fun:={ body:=body68,ntmps:=75,results:=[.cell 2 93,.tmp 3],types:=[93,4],hint:=hint68,keep:=.keep }
def E68:Env:={ T:=tiOf,hint:=hint68 }
def hint70:Hint:={ }
noncomputable def body70:Code:=match Tryz.f70.body with | some c=>c | none=>.skip
noncomputable def fn70:Fun:={ body:=body70,ntmps:=15,results:=[.cell 2 114,.tmp 3],types:=[114,4],hint:=hint70,keep:=.drop }
def E70:Env:={ T:=tiOf,hint:=hint70 }
def hint83:Hint:={ dead:=[(2,[1,2,9,10,11,12,16,17,18,19,20,21,22,23,24,25]),(7,[13,14,15,16])],joins:=[7] }
noncomputable def body83:Code:=match Tryz.f83.body with | some c=>c | none=>.skip
noncomputable def fn83:Fun:={ body:=body83,ntmps:=33,results:=[],types:=[],hint:=hint83,keep:=.keep }
def E83:Env:={ T:=tiOf,hint:=hint83 }
def hint84:Hint:={ }
noncomputable def body84:Code:=match Tryz.f84.body with | some c=>c | none=>.skip
noncomputable def fn84:Fun:={ body:=body84,ntmps:=8,results:=[.tmp 2],types:=[9],hint:=hint84,keep:=.drop }
def E84:Env:={ T:=tiOf,hint:=hint84 }
def hint86:Hint:={ }
noncomputable def body86:Code:=match Tryz.f86.body with | some c=>c | none=>.skip
noncomputable def fn86:Fun:={ body:=body86,ntmps:=22,results:=[.tmp 2,.tmp 3],types:=[9,31],hint:=hint86,keep:=.drop }
def E86:Env:={ T:=tiOf,hint:=hint86 }
def hint87:Hint:={ esc:=[2,3,4,5],eqs:=[75],dead:=[(5,[0,13,14]),(15,[0,5,13,14])],rid:=[(5,8700)],joins:=[15] }
noncomputable def body87:Code:=match Tryz.f87.body with | some c=>c | none=>.skip
noncomputable def fn87:Fun:={ body:=body87,ntmps:=78,results:=[.cell 2 43,.cell 3 4],types:=[43,4],hint:=hint87,keep:=.drop }
def E87:Env:={ T:=tiOf,hint:=hint87 }
def ER87:Env:={ T:=tiOf,hint:=hint87,rnd:=true }
noncomputable def rb8700:Code:=subc body87 [1,1,1,0,1,0,1]
noncomputable def L8700:LoopC:=⟨8700,[15],subc body87 [1,1,1,0,1,0,0],rb8700⟩
def hint95:Hint:={ eqs:=[8] }
noncomputable def body95:Code:=match Tryz.f95.body with | some c=>c | none=>.skip
noncomputable def fn95:Fun:={ body:=body95,ntmps:=9,results:=[.tmp 2],types:=[46],hint:=hint95,keep:=.clip }
def E95:Env:={ T:=tiOf,hint:=hint95 }
def hint96:Hint:={ dead:=[(4,[2,4,5,6,7,8,9,10,11,12,13,14,36,37,38,39,40,41,42,43,44,45,46,47,48,49,50,51,52,53,54,55,56,57,58]),(8,[3,17,18,19,20,21,22,23,24,25,26,27,28,29,30,31,32,33,34,35])],joins:=[8] }
noncomputable def body96:Code:=match Tryz.f96.body with | some c=>c | none=>.skip
noncomputable def fn96:Fun:={ body:=body96,ntmps:=59,results:=[.tmp 2],types:=[4],hint:=hint96,keep:=.drop }
def E96:Env:={ T:=tiOf,hint:=hint96 }
def hint99:Hint:={ eqs:=[12,46] }
noncomputable def body99:Code:=match Tryz.f99.body with | some c=>c | none=>.skip
noncomputable def fn99:Fun:={ body:=body99,ntmps:=49,results:=[.tmp 4],types:=[4],hint:=hint99,keep:=.keep }
def E99:Env:={ T:=tiOf,hint:=hint99 }
def hint100:Hint:={ reH:=[2] }
noncomputable def body100:Code:=match Tryz.f100.body with | some c=>c | none=>.skip
noncomputable def fn100:Fun:={ body:=body100,ntmps:=15,results:=[],types:=[],hint:=hint100,keep:=.keep }
def E100:Env:={ T:=tiOf,hint:=hint100 }
def hint101:Hint:={ eqs:=[12] }
noncomputable def body101:Code:=match Tryz.f101.body with | some c=>c | none=>.skip
noncomputable def fn101:Fun:={ body:=body101,ntmps:=33,results:=[.tmp 4],types:=[4],hint:=hint101,keep:=.keep }
def E101:Env:={ T:=tiOf,hint:=hint101 }
def hint102:Hint:={ eqs:=[12,24],dead:=[(4,[0,1,4,5,7,8,9,10,11,12,13,14,15,16,17,18,19])],reH:=[4,6],joins:=[4] }
noncomputable def body102:Code:=match Tryz.f102.body with | some c=>c | none=>.skip
noncomputable def fn102:Fun:={ body:=body102,ntmps:=34,results:=[],types:=[],hint:=hint102,keep:=.keep }
def E102:Env:={ T:=tiOf,hint:=hint102 }
def hint103:Hint:={ eqs:=[12] }
noncomputable def body103:Code:=match Tryz.f103.body with | some c=>c | none=>.skip
noncomputable def fn103:Fun:={ body:=body103,ntmps:=26,results:=[.tmp 4],types:=[4],hint:=hint103,keep:=.keep }
def E103:Env:={ T:=tiOf,hint:=hint103 }
def hint104:Hint:={ eqs:=[10],reH:=[2] }
noncomputable def body104:Code:=match Tryz.f104.body with | some c=>c | none=>.skip
noncomputable def fn104:Fun:={ body:=body104,ntmps:=16,results:=[],types:=[],hint:=hint104,keep:=.keep }
def E104:Env:={ T:=tiOf,hint:=hint104 }
def hint131:Hint:={ eqs:=[14,15] }
noncomputable def body131:Code:=match Tryz.f131.body with | some c=>c | none=>.skip
noncomputable def fn131:Fun:={ body:=body131,ntmps:=16,results:=[.tmp 2],types:=[9],hint:=hint131,keep:=.drop }
def E131:Env:={ T:=tiOf,hint:=hint131 }
def hint132:Hint:={ }
noncomputable def body132:Code:=match Tryz.f132.body with | some c=>c | none=>.skip
noncomputable def fn132:Fun:={ body:=body132,ntmps:=5,results:=[.tmp 2],types:=[34],hint:=hint132,keep:=.drop }
def E132:Env:={ T:=tiOf,hint:=hint132 }
def hint133:Hint:={ esc:=[1] }
noncomputable def body133:Code:=match Tryz.f133.body with | some c=>c | none=>.skip
noncomputable def fn133:Fun:={ body:=body133,ntmps:=4,results:=[.tmp 2],types:=[98],hint:=hint133,keep:=.keep }
def E133:Env:={ T:=tiOf,hint:=hint133 }
def hint134:Hint:={ esc:=[29],dead:=[(6,[0,1,6,7,8,11,12,13,14,15,16,17,18,19,20,21,22,23,24,25,26,27,28,29,30,33,34,35,36,37,38,39,40,41,42,43,44,45,46,47,48,49,50]),(13,[31,32,33])],reH:=[5,12],joins:=[13],eqr:=true }
noncomputable def body134:Code:=match Tryz.f134.body with | some c=>c | none=>.skip
noncomputable def fn134:Fun:={ body:=body134,ntmps:=57,results:=[.tmp 6,.tmp 7,.tmp 8],types:=[62,9,4],hint:=hint134,keep:=.drop }
def E134:Env:={ T:=tiOf,hint:=hint134 }
def hint162:Hint:={ }
noncomputable def body162:Code:=match Tryz.f162.body with | some c=>c | none=>.skip
noncomputable def fn162:Fun:={ body:=body162,ntmps:=10,results:=[.tmp 4],types:=[34],hint:=hint162,keep:=.drop }
def E162:Env:={ T:=tiOf,hint:=hint162 }
def hint163:Hint:={ dead:=[(1,[1,4,5,6,7,8,9,10,11,12,13,14,15,16,17,18,19,20,21,22,23,24,25,26])] }
noncomputable def body163:Code:=match Tryz.f163.body with | some c=>c | none=>.skip
noncomputable def fn163:Fun:={ body:=body163,ntmps:=27,results:=[],types:=[],hint:=hint163,keep:=.keep }
def E163:Env:={ T:=tiOf,hint:=hint163 }
def hint190:Hint:={ esc:=[5],eqs:=[34,41],dead:=[(3,[4,6,9,10,11,12,13,14,15,16]),(7,[8,9]),(8,[17,18,19,20,21,22,23,24,25,26,27,28,29,30,31,32,33,34,35,36,37,38,39,40,41,42])],reH:=[2,6],joins:=[7] }
noncomputable def body190:Code:=match Tryz.f190.body with | some c=>c | none=>.skip
noncomputable def fn190:Fun:={ body:=body190,ntmps:=44,results:=[.tmp 4],types:=[34],hint:=hint190,keep:=.drop }
def E190:Env:={ T:=tiOf,hint:=hint190 }
def hint203:Hint:={ dead:=[(2,[1,4,16]),(6,[7,8,9,10,11,12,13,14,15])],joins:=[6] }
noncomputable def body203:Code:=match Tryz.f203.body with | some c=>c | none=>.skip
noncomputable def fn203:Fun:={ body:=body203,ntmps:=18,results:=[.tmp 4],types:=[34],hint:=hint203,keep:=.drop }
def E203:Env:={ T:=tiOf,hint:=hint203 }
def fnTab:List (Nat×Hint×Keep):=[(5,hint5,.drop),(12,hint12,.drop),(14,hint14,.drop),(15,hint15,.drop),(16,hint16,.drop),(17,hint17,.drop),(18,hint18,.drop),(19,hint19,.keep),(20,hint20,.drop),(21,hint21,.drop),(22,hint22,.drop),(23,hint23,.drop),(24,hint24,.keep),(25,hint25,.keep),(30,hint30,.drop),(39,hint39,.drop),(40,hint40,.drop),(41,hint41,.drop),(44,hint44,.drop),(45,hint45,.drop),(46,hint46,.keep),(47,hint47,.drop),(48,hint48,.drop),(49,hint49,.keep),(51,hint51,.keep),(52,hint52,.drop),(53,hint53,.drop),(54,hint54,.drop),(55,hint55,.drop),(56,hint56,.keep),(68,hint68,.keep),(70,hint70,.drop),(83,hint83,.keep),(84,hint84,.drop),(86,hint86,.drop),(87,hint87,.drop),(95,hint95,.clip),(96,hint96,.drop),(99,hint99,.keep),(100,hint100,.keep),(101,hint101,.keep),(102,hint102,.keep),(103,hint103,.keep),(104,hint104,.keep),(131,hint131,.drop),(132,hint132,.drop),(133,hint133,.keep),(134,hint134,.drop),(162,hint162,.drop),(163,hint163,.keep),(190,hint190,.drop),(203,hint203,.drop)]
def rndTab:List (Nat×Hint×Keep):=[(8700,hint87,.keep)]
noncomputable def fnOf (f:FuncId):Option Fun:=match lkN f fnTab with
 | some (h,kp)=>match Tryz.checked.prog.funcs[f]? with
  | some F => bif F.name == "runtime.NumGoroutine" then none else funOf F h kp
  | none=>none
 | none=>none
def relSorted (f:FuncId) (args:List AVal) (H:List HObj) (r:AVal) (H':List HObj):Prop:=
 f=50∧∃(q id:Nat) (L:List (ByteArray×Int)),args=[.func 94 [.href q 0]]∧H[q]?=some (.arr [.map id])∧H[id]?=some (.map (entL AVal.str (AVal.int .i64) L))∧L.length*16≤140737488355328∧(∀p∈L,p.1.size≤9223372036854775807)∧((r=encL 1 AVal.str bE (isort (L.map (·.1)))∧H'=H)∨(r,H')=sortE H (sortR (isort (L.map (·.1)))))
def extRel (f:FuncId) (args:List AVal) (H:List HObj) (r:AVal) (H':List HObj):Prop:=
 relSorted f args H r H'∨(f=129∧relWrite 126 5 args H r H')∨(f=130∧relByte 126 5 args H r H')∨(f=85∧relString 126 5 args H r H')∨(f=38∧relItoa args H r H')∨(f=166∧relAtoi args H r H')∨(f=164∧relCut args H r H')∨(f=165∧relSplit args H r H')
noncomputable def G:Prog:={ T:=tiOf,fns:=fnOf,ext:=extRel,rnds:=fun i=>lkN i rndTab }
def Cn (n:Nat):FuncId→List AVal→List HObj→AVal→List HObj→Prop:=fun g args H r H'=>CallIn (Run G n g) args H r H'
theorem cnR {n:Nat} {f:FuncId} {args:List AVal} {H H':List HObj} {r:AVal} (h:Run G n f args H r H'):Cn n f args H r H':=.inr h
theorem cnL {n:Nat} {f:FuncId} {args:List AVal} {H H0:List HObj} {r:AVal} (h1:args.all noRefArg=true) (h2:noRefAll r=true) (h:Run G n f args [] r H0):Cn n f args H r H:=.inl ⟨h1,h2,rfl,_,h⟩
theorem Dq {α β R:Type} {n:Nat} {enc:α→R} {t:Tree R} {x:Option β} {J:β→Option α} (e:β→AVal×List HObj) {f:FuncId} {args:List AVal} (H:List HObj) (hc:∀b,x=some b→Run G n f args [] (e b).1 (e b).2)
  (h1:∀b,Dn (Cn n) enc (t.go (e b).1 H) (J b)) (h:t.head=.call f args H:=by kernel_rfl) (h2:args.all noRefArg=true:=by kernel_rfl) (h3:∀b,noRefAll (e b).1=true:=by (intro b;kernel_rfl)):Dn (Cn n) enc t (x.bind J):=
 Dn.call (fun b=>(e b).1) (fun _=>H) h (fun b hb=>cnL h2 (h3 b) (hc b hb)) h1
theorem Dqm {α β R:Type} {n:Nat} {enc:α→R} {t:Tree R} {x:Option β} {J:β→Option α} (e:β→AVal×List HObj) {f:FuncId} {args:List AVal} (H:List HObj) (hc:∀b,x=some b→Run G n f args [] (e b).1 (e b).2)
  (h1:∀b,Dn (Cn n) enc (t.go (e b).1 H) (J b)) (h:t.head=.call f args H:=by kernel_rfl) (h2:args.all noRefArg=true:=by kernel_rfl) (h3:∀b,noRefAll (e b).1=true:=by (intro b;cases b<;>rfl)):Dn (Cn n) enc t (x.bind J):=
 Dn.call (fun b=>(e b).1) (fun _=>H) h (fun b hb=>cnL h2 (h3 b) (hc b hb)) h1
theorem Dp {α β R:Type} {n:Nat} {enc:α→R} {t:Tree R} {x:Option β} {J:β→Option α} (e:β→AVal×List HObj) {f:FuncId} {args:List AVal} {H:List HObj} (hc:∀b,x=some b→Run G n f args H (e b).1 (e b).2)
  (h1:∀b,Dn (Cn n) enc (t.go (e b).1 (e b).2) (J b)) (h:t.head=.call f args H:=by kernel_rfl):Dn (Cn n) enc t (x.bind J):=
 Dn.call (fun b=>(e b).1) (fun b=>(e b).2) h (fun b hb=>cnR (hc b hb)) h1
theorem run_of {n:Nat} {f:FuncId} {fn:Fun} {args:List AVal} {H:List HObj} {r:AVal×List HObj} (hf:fnOf f=some fn) (h:Den (Cn n) (enter { T:=tiOf,hint:=fn.hint } n fn args H) r):Run G (n+1) f args H r.1 r.2:=.inr (.inl ⟨fn,hf,h⟩)
theorem rnd_of {n i id:Nat} {L:LoopC} {ts args:List AVal} {h:Hint} {kp:Keep} {H:List HObj} {r:AVal×List HObj} (hH:H[id]?=some (.loop L ts .ready)) (hi:L.id=i) (hl:args.length=L.params.length) (hr:lkN i rndTab=some (h,kp)) (hd:Den (Cn n) (enterRound { T:=tiOf,hint:=h,rnd:=true } n L kp id ts args H) r):Run G (n+1) (rnd0+i) (.yld id::args) H r.1 r.2:=
 .inr (.inr ⟨i,id,args,L,ts,h,kp,rfl,rfl,hH,hi,hl,hr,hd⟩)
theorem bwrite_ok {n id:Nat} {H:List HObj} {b s c:ByteArray} (h1:H[id]?=some (.bld 126 5 b)) (h:bWrite n b s=some c):Run G n 129 [.href id 0,.str s] H (.tuple [.int .i64 s.size,.nilIface]) (H.set id (.bld 126 5 c)):=by
 cases n with
 | zero=>cases h
 | succ n=>
  unfold bWrite at h
  cases hc:decide (b.size+s.size≤140737488355328) with
  | false=>simp only [hc,cond_false] at h;cases h
  | true=>
   simp only [hc,cond_true,Option.some.injEq] at h
   subst h
   exact .inl (.inr (.inl ⟨rfl,id,b,s,rfl,h1,of_decide_eq_true hc,rfl,rfl⟩))
theorem bbyte_ok {n id:Nat} {H:List HObj} {b d:ByteArray} {c:Int} (h1:H[id]?=some (.bld 126 5 b)) (h:bByte n b c=some d):Run G n 130 [.href id 0,.int .u8 c] H .nilIface (H.set id (.bld 126 5 d)):=by
 cases n with
 | zero=>cases h
 | succ n=>
  unfold bByte at h
  cases hc:(decide (b.size+1≤140737488355328)&&(decide (0≤c)&&decide (c<256))) with
  | false=>simp only [hc,cond_false] at h;cases h
  | true=>
   simp only [hc,cond_true,Option.some.injEq] at h
   subst h
   simp only [Bool.and_eq_true,decide_eq_true_eq] at hc
   exact .inl (.inr (.inr (.inl ⟨rfl,id,b,c,rfl,h1,hc.1,hc.2.1,hc.2.2,rfl,rfl⟩)))
theorem bstring_ok {n id:Nat} {H:List HObj} {b c:ByteArray} (h1:H[id]?=some (.bld 126 5 b)) (h:bString n b=some c):Run G n 85 [.href id 0] H (.str c) H:=by
 cases n with
 | zero=>cases h
 | succ n=>
  unfold bString at h
  cases hc:decide (1≤b.size) with
  | false=>simp only [hc,cond_false] at h;cases h
  | true=>
   simp only [hc,cond_true,Option.some.injEq] at h
   subst h
   exact .inl (.inr (.inr (.inr (.inl ⟨rfl,id,b,rfl,h1,of_decide_eq_true hc,rfl,rfl⟩))))
theorem itoa_ok {n:Nat} {H:List HObj} {x:Int} {b:ByteArray} (h:itoaS n x=some b):Run G n 38 [.int .i64 x] H (.str b) H:=by
 cases n with
 | zero=>cases h
 | succ n=>exact .inl (.inr (.inr (.inr (.inr (.inl ⟨rfl,rel_itoa H h⟩)))))
theorem atoi_ok {n:Nat} {H:List HObj} {s:ByteArray} {b:AtoiR} (h:atoiS n s=some b):Run G n 166 [.str s] H (atoiE H b).1 (atoiE H b).2:=by
 cases n with
 | zero=>cases h
 | succ n=>exact .inl (.inr (.inr (.inr (.inr (.inr (.inl ⟨rfl,rel_atoi H h⟩))))))
theorem cut_ok {n:Nat} {H:List HObj} {s sep:ByteArray} {b:ByteArray×ByteArray×Bool} (h:cutS n s sep=some b):Run G n 164 [.str s,.str sep] H (.tuple [.str b.1,.str b.2.1,.bool b.2.2]) H:=by
 cases n with
 | zero=>cases h
 | succ n=>exact .inl (.inr (.inr (.inr (.inr (.inr (.inr (.inl ⟨rfl,rel_cut H h⟩)))))))
theorem split_ok {n:Nat} {H:List HObj} {s sep:ByteArray} {b:List ByteArray} (h:splitS n s sep=some b):Run G n 165 [.str s,.str sep] H (encL 1 AVal.str bE b) H:=by
 cases n with
 | zero=>cases h
 | succ n=>exact .inl (.inr (.inr (.inr (.inr (.inr (.inr (.inr (⟨rfl,rel_split H h⟩))))))))
theorem sorted_ok {n q id:Nat} {H:List HObj} {L:List (ByteArray×Int)} {b:List ByteArray} (h1:H[q]?=some (.arr [.map id])) (h2:H[id]?=some (.map (entL AVal.str (AVal.int .i64) L))) (h:sortedKeys n L=some b):Run G n 50 [.func 94 [.href q 0]] H (encL 1 AVal.str bE b) H:=by
 cases n with
 | zero=>cases h
 | succ n=>
  unfold sortedKeys at h
  cases hc:(decide (L.length*16≤140737488355328)&&L.all (fun p=>decide (p.1.size≤9223372036854775807))) with
  | false=>rw [hc] at h;cases h
  | true=>
   rw [hc] at h;cases h
   simp only [Bool.and_eq_true,decide_eq_true_eq,List.all_eq_true] at hc
   exact .inl (.inl ⟨rfl,q,id,L,rfl,h1,h2,hc.1,hc.2,.inl ⟨rfl,rfl⟩⟩)
theorem sortedM_ok {n q id:Nat} {H:List HObj} {L:List (ByteArray×Int)} {b:SortR} (h1:H[q]?=some (.arr [.map id])) (h2:H[id]?=some (.map (entL AVal.str (AVal.int .i64) L))) (h:sortedM n L=some b):Run G n 50 [.func 94 [.href q 0]] H (sortE H b).1 (sortE H b).2:=by
 cases n with
 | zero=>cases h
 | succ n=>
  unfold sortedM sortedKeys at h
  cases hc:(decide (L.length*16≤140737488355328)&&L.all (fun p=>decide (p.1.size≤9223372036854775807))) with
  | false=>rw [hc] at h;cases h
  | true=>
   rw [hc] at h;cases h
   simp only [Bool.and_eq_true,decide_eq_true_eq,List.all_eq_true] at hc
   exact .inl (.inl ⟨rfl,q,id,L,rfl,h1,h2,hc.1,hc.2,.inr rfl⟩)
end Go.Proofs.YtomalcfghdaghaaGreatDoor
