/- The walk of FetchPlays and the reading of its arguments. -/
import Derived.Test.YtcbjbmbibnmohaaW9b
import Derived.Test.YtcbjbmbibnmohaaR9
