/- PRINTED: the structs of the program, their encodings. -/
import Derived.Test.YtomalcfghdaghaaGreatDoorAmX
set_option linter.unusedVariables false
set_option maxRecDepth 100000
set_option maxHeartbeats 0
namespace Go.Proofs.YtomalcfghdaghaaGreatDoor
open Go Go.AM
structure GLabel where
  Name : ByteArray
  Value : ByteArray
def encGLabel (x : GLabel) : AVal := .agg [.str x.Name, .str x.Value]
def dGLabel : GLabel := ⟨bE, bE⟩
theorem okGLabel : EncOk true 2 encGLabel := ⟨by decide, fun _ => rfl, fun _ => rfl, fun _ => rfl, fun _ => rfl⟩
structure G35 where
  E0 : Int
  E1 : Int
  E2 : Int
  E3 : Int
  E4 : Int
  E5 : Int
  E6 : Int
  E7 : Int
def encG35 (x : G35) : AVal := .agg [.int .u32 x.E0, .int .u32 x.E1, .int .u32 x.E2, .int .u32 x.E3, .int .u32 x.E4, .int .u32 x.E5, .int .u32 x.E6, .int .u32 x.E7]
def dG35 : G35 := ⟨0, 0, 0, 0, 0, 0, 0, 0⟩
theorem okG35 : EncOk true 8 encG35 := ⟨by decide, fun _ => rfl, fun _ => rfl, fun _ => rfl, fun _ => rfl⟩
structure GZone where
  Count : Int
  MinTime : Int
  MaxTime : Int
  MinValue : Int
  MaxValue : Int
  Bloom : G35
def encGZone (x : GZone) : AVal := .agg [.int .i64 x.Count, .int .i64 x.MinTime, .int .i64 x.MaxTime, .int .i64 x.MinValue, .int .i64 x.MaxValue, .int .u32 x.Bloom.E0, .int .u32 x.Bloom.E1, .int .u32 x.Bloom.E2, .int .u32 x.Bloom.E3, .int .u32 x.Bloom.E4, .int .u32 x.Bloom.E5, .int .u32 x.Bloom.E6, .int .u32 x.Bloom.E7]
def dGZone : GZone := ⟨0, 0, 0, 0, 0, dG35⟩
theorem okGZone : EncOk true 13 encGZone := ⟨by decide, fun _ => rfl, fun _ => rfl, fun _ => rfl, fun _ => rfl⟩
structure GChunk where
  Signal : Int
  Labels : List GLabel
  Zone : GZone
  Data : ByteArray
def encGChunk (x : GChunk) : AVal := .agg [.int .i64 x.Signal, encO .shared 2 encGLabel dGLabel x.Labels, .int .i64 x.Zone.Count, .int .i64 x.Zone.MinTime, .int .i64 x.Zone.MaxTime, .int .i64 x.Zone.MinValue, .int .i64 x.Zone.MaxValue, .int .u32 x.Zone.Bloom.E0, .int .u32 x.Zone.Bloom.E1, .int .u32 x.Zone.Bloom.E2, .int .u32 x.Zone.Bloom.E3, .int .u32 x.Zone.Bloom.E4, .int .u32 x.Zone.Bloom.E5, .int .u32 x.Zone.Bloom.E6, .int .u32 x.Zone.Bloom.E7, .str x.Data]
def dGChunk : GChunk := ⟨0, [], dGZone, bE⟩
theorem okGChunk : EncOk true 16 encGChunk := ⟨by decide, fun _ => rfl, fun _ => rfl, fun _ => rfl, fun _ => rfl⟩
structure GBlock where
  Id : Int
  Width : Int
  From : Int
  Chunks : List GChunk
def encGBlock (x : GBlock) : AVal := .agg [.int .i64 x.Id, .int .i64 x.Width, .int .i64 x.From, encO .shared 16 encGChunk dGChunk x.Chunks]
def dGBlock : GBlock := ⟨0, 0, 0, []⟩
theorem okGBlock : EncOk true 4 encGBlock := ⟨by decide, fun _ => rfl, fun _ => rfl, fun _ => rfl, fun _ => rfl⟩
structure GBlockRef where
  Id : Int
  Width : Int
  File : ByteArray
  MinTime : Int
  MaxTime : Int
  Size : Int
def encGBlockRef (x : GBlockRef) : AVal := .agg [.int .i64 x.Id, .int .i64 x.Width, .str x.File, .int .i64 x.MinTime, .int .i64 x.MaxTime, .int .i64 x.Size]
def dGBlockRef : GBlockRef := ⟨0, 0, bE, 0, 0, 0⟩
theorem okGBlockRef : EncOk true 6 encGBlockRef := ⟨by decide, fun _ => rfl, fun _ => rfl, fun _ => rfl, fun _ => rfl⟩
structure GManifest where
  Version : Int
  Next : Int
  RawFrom : Int
  Log : ByteArray
  Blocks : List GBlockRef
def encGManifest (x : GManifest) : AVal := .agg [.int .i64 x.Version, .int .i64 x.Next, .int .i64 x.RawFrom, .str x.Log, encO .shared 6 encGBlockRef dGBlockRef x.Blocks]
def dGManifest : GManifest := ⟨0, 0, 0, bE, []⟩
theorem okGManifest : EncOk true 5 encGManifest := ⟨by decide, fun _ => rfl, fun _ => rfl, fun _ => rfl, fun _ => rfl⟩
end Go.Proofs.YtomalcfghdaghaaGreatDoor
