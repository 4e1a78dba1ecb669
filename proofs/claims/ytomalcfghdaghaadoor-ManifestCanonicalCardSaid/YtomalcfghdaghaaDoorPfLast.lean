/- the last part -/
import Derived.Test.YtomalcfghdaghaaDoorPf0
