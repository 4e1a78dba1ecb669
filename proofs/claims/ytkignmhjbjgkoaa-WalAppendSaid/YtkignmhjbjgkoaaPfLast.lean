/- the last part -/
import Derived.Test.YtkignmhjbjgkoaaPf2
