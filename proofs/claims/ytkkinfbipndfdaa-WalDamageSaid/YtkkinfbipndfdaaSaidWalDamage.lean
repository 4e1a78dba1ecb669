/- Proved: a change of at most four neighbouring bytes of a record is told. -/
import Derived.Test.YtkkinfbipndfdaaRowWalDamage
import Derived.Test.YtkkinfbipndfdaaExtNo
import Derived.Test.YtkkinfbipndfdaaWd2
namespace Go.Proofs.Ytkkinfbipndfdaa
theorem walDamage_said : Rows.WalDamageSaid := walDamage_over gOk (fun x0 x1 x2 x3 h0 h1 h2 h3 => walDamage_law x0 x1 x2 x3 (u8 h1) (u8 h2) ⟨u8 h3.1, u8 h3.2.1, u8 h3.2.2.1, u8 h3.2.2.2.1⟩)
end Go.Proofs.Ytkkinfbipndfdaa
