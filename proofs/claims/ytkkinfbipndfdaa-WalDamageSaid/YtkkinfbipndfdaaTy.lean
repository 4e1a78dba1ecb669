/- PRINTED: the structs of the program, their encodings. -/
import Derived.Test.YtkkinfbipndfdaaAmX
set_option linter.unusedVariables false
set_option maxRecDepth 100000
set_option maxHeartbeats 0
namespace Go.Proofs.Ytkkinfbipndfdaa
open Go Go.AM
structure G23 where
  E0 : Int
  E1 : Int
  E2 : Int
  E3 : Int
def encG23 (x : G23) : AVal := .agg [.int .u8 x.E0, .int .u8 x.E1, .int .u8 x.E2, .int .u8 x.E3]
def dG23 : G23 := ⟨0, 0, 0, 0⟩
theorem okG23 : EncOk true 4 encG23 := ⟨by decide, fun _ => rfl, fun _ => rfl, fun _ => rfl, fun _ => rfl⟩
structure Glookoutlaw23_Act where
  Kind : Int
  Records : List ByteArray
  N : Int
  Picks : List Int
def encGlookoutlaw23_Act (x : Glookoutlaw23_Act) : AVal := .agg [.int .i64 x.Kind, encO .shared 1 AVal.str bE x.Records, .int .u8 x.N, encO .shared 1 (AVal.int .i64) 0 x.Picks]
def dGlookoutlaw23_Act : Glookoutlaw23_Act := ⟨0, [], 0, []⟩
theorem okGlookoutlaw23_Act : EncOk true 4 encGlookoutlaw23_Act := ⟨by decide, fun _ => rfl, fun _ => rfl, fun _ => rfl, fun _ => rfl⟩
structure GInode where
  Data : ByteArray
  Synced : Int
def encGInode (x : GInode) : AVal := .agg [.str x.Data, .int .i64 x.Synced]
def dGInode : GInode := ⟨bE, 0⟩
theorem okGInode : EncOk true 2 encGInode := ⟨by decide, fun _ => rfl, fun _ => rfl, fun _ => rfl, fun _ => rfl⟩
structure GDirEntry where
  Name : ByteArray
  Inode : Int
def encGDirEntry (x : GDirEntry) : AVal := .agg [.str x.Name, .int .i64 x.Inode]
def dGDirEntry : GDirEntry := ⟨bE, 0⟩
theorem okGDirEntry : EncOk true 2 encGDirEntry := ⟨by decide, fun _ => rfl, fun _ => rfl, fun _ => rfl, fun _ => rfl⟩
structure GDirOp where
  Kind : Int
  Name : ByteArray
  To : ByteArray
  Inode : Int
def encGDirOp (x : GDirOp) : AVal := .agg [.int .i64 x.Kind, .str x.Name, .str x.To, .int .i64 x.Inode]
def dGDirOp : GDirOp := ⟨0, bE, bE, 0⟩
theorem okGDirOp : EncOk true 4 encGDirOp := ⟨by decide, fun _ => rfl, fun _ => rfl, fun _ => rfl, fun _ => rfl⟩
structure GDisk where
  Inodes : List GInode
  Durable : List GDirEntry
  Pending : List GDirOp
  Left : Int
def encGDisk (x : GDisk) : AVal := .agg [encO .shared 2 encGInode dGInode x.Inodes, encO .shared 2 encGDirEntry dGDirEntry x.Durable, encO .shared 4 encGDirOp dGDirOp x.Pending, .int .i64 x.Left]
def dGDisk : GDisk := ⟨[], [], [], 0⟩
theorem okGDisk : EncOk true 4 encGDisk := ⟨by decide, fun _ => rfl, fun _ => rfl, fun _ => rfl, fun _ => rfl⟩
structure GWal where
  Disk : GDisk
  Name : ByteArray
  Size : Int
  Records : List ByteArray
def encGWal (x : GWal) : AVal := .agg [encO .shared 2 encGInode dGInode x.Disk.Inodes, encO .shared 2 encGDirEntry dGDirEntry x.Disk.Durable, encO .shared 4 encGDirOp dGDirOp x.Disk.Pending, .int .i64 x.Disk.Left, .str x.Name, .int .i64 x.Size, encO .shared 1 AVal.str bE x.Records]
def dGWal : GWal := ⟨dGDisk, bE, 0, []⟩
theorem okGWal : EncOk true 7 encGWal := ⟨by decide, fun _ => rfl, fun _ => rfl, fun _ => rfl, fun _ => rfl⟩
end Go.Proofs.Ytkkinfbipndfdaa
