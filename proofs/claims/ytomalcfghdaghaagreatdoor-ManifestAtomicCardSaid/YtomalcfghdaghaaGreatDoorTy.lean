/- PRINTED: the structs of the program, their encodings. -/
import Derived.Test.YtomalcfghdaghaaGreatDoorAmX
set_option linter.unusedVariables false
set_option maxRecDepth 100000
set_option maxHeartbeats 0
namespace Go.Proofs.YtomalcfghdaghaaGreatDoor
open Go Go.AM
structure GInode where
  Data : ByteArray
  Synced : Int
def encGInode (x : GInode) : AVal := .agg [.str x.Data, .int .i64 x.Synced]
def dGInode : GInode := ⟨bE, 0⟩
theorem okGInode : EncOk true 2 encGInode := ⟨by decide, fun _ => rfl, fun _ => rfl, fun _ => rfl, fun _ => rfl⟩
structure GDirEntry where
  Name : ByteArray
  Inode : Int
def encGDirEntry (x : GDirEntry) : AVal := .agg [.str x.Name, .int .i64 x.Inode]
def dGDirEntry : GDirEntry := ⟨bE, 0⟩
theorem okGDirEntry : EncOk true 2 encGDirEntry := ⟨by decide, fun _ => rfl, fun _ => rfl, fun _ => rfl, fun _ => rfl⟩
structure GDirOp where
  Kind : Int
  Name : ByteArray
  To : ByteArray
  Inode : Int
def encGDirOp (x : GDirOp) : AVal := .agg [.int .i64 x.Kind, .str x.Name, .str x.To, .int .i64 x.Inode]
def dGDirOp : GDirOp := ⟨0, bE, bE, 0⟩
theorem okGDirOp : EncOk true 4 encGDirOp := ⟨by decide, fun _ => rfl, fun _ => rfl, fun _ => rfl, fun _ => rfl⟩
structure GDisk where
  Inodes : List GInode
  Durable : List GDirEntry
  Pending : List GDirOp
  Left : Int
def encGDisk (x : GDisk) : AVal := .agg [encO .shared 2 encGInode dGInode x.Inodes, encO .shared 2 encGDirEntry dGDirEntry x.Durable, encO .shared 4 encGDirOp dGDirOp x.Pending, .int .i64 x.Left]
def dGDisk : GDisk := ⟨[], [], [], 0⟩
theorem okGDisk : EncOk true 4 encGDisk := ⟨by decide, fun _ => rfl, fun _ => rfl, fun _ => rfl, fun _ => rfl⟩
structure GBlockRef where
  Id : Int
  Width : Int
  File : ByteArray
  MinTime : Int
  MaxTime : Int
  Size : Int
def encGBlockRef (x : GBlockRef) : AVal := .agg [.int .i64 x.Id, .int .i64 x.Width, .str x.File, .int .i64 x.MinTime, .int .i64 x.MaxTime, .int .i64 x.Size]
def dGBlockRef : GBlockRef := ⟨0, 0, bE, 0, 0, 0⟩
theorem okGBlockRef : EncOk true 6 encGBlockRef := ⟨by decide, fun _ => rfl, fun _ => rfl, fun _ => rfl, fun _ => rfl⟩
structure GManifest where
  Version : Int
  Next : Int
  RawFrom : Int
  Log : ByteArray
  Blocks : List GBlockRef
def encGManifest (x : GManifest) : AVal := .agg [.int .i64 x.Version, .int .i64 x.Next, .int .i64 x.RawFrom, .str x.Log, encO .shared 6 encGBlockRef dGBlockRef x.Blocks]
def dGManifest : GManifest := ⟨0, 0, 0, bE, []⟩
theorem okGManifest : EncOk true 5 encGManifest := ⟨by decide, fun _ => rfl, fun _ => rfl, fun _ => rfl, fun _ => rfl⟩
end Go.Proofs.YtomalcfghdaghaaGreatDoor
