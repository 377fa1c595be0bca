/- The walk of CheckElse and the reading of its arguments. -/
import Derived.Test.YtecbnialcnplkaaW8b
import Derived.Test.YtecbnialcnplkaaR8
