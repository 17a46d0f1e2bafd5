/- What the seat knows of the functions that were walked by hand: insert_ok (85), stat_ok (44). -/
import Derived.Test.YtampnnhdgnhjaaaStE
import Derived.Test.YtampnnhdgnhjaaaSeat
