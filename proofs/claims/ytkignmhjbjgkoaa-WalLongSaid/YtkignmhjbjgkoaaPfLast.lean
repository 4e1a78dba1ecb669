/- the last part -/
import Derived.Test.YtkignmhjbjgkoaaPf1
