/- the last part -/
import Derived.Test.YtkignmhjbjgkoaaGreatPf1
