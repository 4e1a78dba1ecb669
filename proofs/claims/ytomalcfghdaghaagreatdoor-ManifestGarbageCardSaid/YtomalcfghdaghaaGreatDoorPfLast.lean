/- the last part -/
import Derived.Test.YtomalcfghdaghaaGreatDoorPf1
