/- PRINTED: what is known of handed values. -/
import Derived.Test.YtomalcfghdaghaaGreatDoorAmW
import Derived.Test.YtomalcfghdaghaaGreatDoorTy
set_option linter.unusedVariables false
set_option maxRecDepth 100000
set_option maxHeartbeats 0
namespace Go.Proofs.YtomalcfghdaghaaGreatDoor
open Go Go.AM
def wfGI (x:GI):Prop:=wfStr x.Data∧(wfInt .i64) x.Synced∧True
def wfGDE (x:GDE):Prop:=wfStr x.Name∧(wfInt .i64) x.Inode∧True
def wfGDO (x:GDO):Prop:=(wfInt .i64) x.Kind∧wfStr x.Name∧wfStr x.To∧(wfInt .i64) x.Inode∧True
def wfGDisk (x:GDisk):Prop:=(wfL wfGI) x.Inodes∧(wfL wfGDE) x.Durable∧(wfL wfGDO) x.Pending∧(wfInt .i64) x.Left∧True
def wfGBR (x:GBR):Prop:=(wfInt .i64) x.Id∧(wfInt .i64) x.Width∧wfStr x.File∧(wfInt .i64) x.MinTime∧(wfInt .i64) x.MaxTime∧(wfInt .i64) x.Size∧True
def wfGMf (x:GMf):Prop:=(wfInt .i64) x.Version∧(wfInt .i64) x.Next∧(wfInt .i64) x.RawFrom∧wfStr x.Log∧(wfL wfGBR) x.Blocks∧True
end Go.Proofs.YtomalcfghdaghaaGreatDoor
