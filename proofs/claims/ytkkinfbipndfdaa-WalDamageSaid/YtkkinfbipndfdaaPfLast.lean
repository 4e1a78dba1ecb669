/- the last part -/
import Derived.Test.YtkkinfbipndfdaaPf0
