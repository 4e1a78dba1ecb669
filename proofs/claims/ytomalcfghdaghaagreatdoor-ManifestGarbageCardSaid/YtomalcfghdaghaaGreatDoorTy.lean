/- PRINTED: the structs of the program, their encodings. -/
import Derived.Test.YtomalcfghdaghaaGreatDoorAmX
set_option linter.unusedVariables false
set_option maxRecDepth 100000
set_option maxHeartbeats 0
namespace Go.Proofs.YtomalcfghdaghaaGreatDoor
open Go Go.AM
structure GI where
 Data:ByteArray
 Synced:Int
def encGI (x:GI):AVal:=.agg [.str x.Data,.int .i64 x.Synced]
def dGI:GI:=⟨bE,0⟩
theorem okGI:EncOk true 2 encGI:=⟨by decide,fun _=>rfl,fun _=>rfl,fun _=>rfl,fun _=>rfl⟩
structure GDE where
 Name:ByteArray
 Inode:Int
def encGDE (x:GDE):AVal:=.agg [.str x.Name,.int .i64 x.Inode]
def dGDE:GDE:=⟨bE,0⟩
theorem okGDE:EncOk true 2 encGDE:=⟨by decide,fun _=>rfl,fun _=>rfl,fun _=>rfl,fun _=>rfl⟩
structure GDO where
 Kind:Int
 Name:ByteArray
 To:ByteArray
 Inode:Int
def encGDO (x:GDO):AVal:=.agg [.int .i64 x.Kind,.str x.Name,.str x.To,.int .i64 x.Inode]
def dGDO:GDO:=⟨0,bE,bE,0⟩
theorem okGDO:EncOk true 4 encGDO:=⟨by decide,fun _=>rfl,fun _=>rfl,fun _=>rfl,fun _=>rfl⟩
structure GDisk where
 Inodes:List GI
 Durable:List GDE
 Pending:List GDO
 Left:Int
def encGDisk (x:GDisk):AVal:=.agg [encO .shared 2 encGI dGI x.Inodes,encO .shared 2 encGDE dGDE x.Durable,encO .shared 4 encGDO dGDO x.Pending,.int .i64 x.Left]
def dGDisk:GDisk:=⟨[],[],[],0⟩
theorem okGDisk:EncOk true 4 encGDisk:=⟨by decide,fun _=>rfl,fun _=>rfl,fun _=>rfl,fun _=>rfl⟩
structure GBR where
 Id:Int
 Width:Int
 File:ByteArray
 MinTime:Int
 MaxTime:Int
 Size:Int
def encGBR (x:GBR):AVal:=.agg [.int .i64 x.Id,.int .i64 x.Width,.str x.File,.int .i64 x.MinTime,.int .i64 x.MaxTime,.int .i64 x.Size]
def dGBR:GBR:=⟨0,0,bE,0,0,0⟩
theorem okGBR:EncOk true 6 encGBR:=⟨by decide,fun _=>rfl,fun _=>rfl,fun _=>rfl,fun _=>rfl⟩
structure GMf where
 Version:Int
 Next:Int
 RawFrom:Int
 Log:ByteArray
 Blocks:List GBR
def encGMf (x:GMf):AVal:=.agg [.int .i64 x.Version,.int .i64 x.Next,.int .i64 x.RawFrom,.str x.Log,encO .shared 6 encGBR dGBR x.Blocks]
def dGMf:GMf:=⟨0,0,0,bE,[]⟩
theorem okGMf:EncOk true 5 encGMf:=⟨by decide,fun _=>rfl,fun _=>rfl,fun _=>rfl,fun _=>rfl⟩
end Go.Proofs.YtomalcfghdaghaaGreatDoor
