/- The walk of BeginEnds and the reading of its arguments. -/
import Derived.Test.YtkhppganhhmpeaaW7b
import Derived.Test.YtkhppganhhmpeaaRT
