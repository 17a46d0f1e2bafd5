/- What the seat knows of the functions that were walked by hand: insert_ok (56), stat_ok (32), members_sum (18). -/
import Derived.Test.YtijabmpcicddbaaStE
import Derived.Test.YtijabmpcicddbaaMemC
