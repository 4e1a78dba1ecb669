/- the last part -/
import Derived.Test.YtomalcfghdaghaaGreatDoorPf2
