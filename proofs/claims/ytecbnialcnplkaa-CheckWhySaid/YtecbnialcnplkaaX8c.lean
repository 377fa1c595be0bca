/- The walk of CheckWhy and the reading of its arguments. -/
import Derived.Test.YtecbnialcnplkaaW8c
import Derived.Test.YtecbnialcnplkaaRT
